/- What the translated operations do in the model: each does what the abstract one does. The operations on single values and on memory. -/
import Derived.Test.YtonfcbadaebjnaaAm2
import Derived.Test.YtonfcbadaebjnaaAm3
namespace Go.Am
open Go Go.RowKit

def EnvR (n : Nat) (m : Plcs) (env : Env) (a : Act) : Prop := a.tmps.size = env.n ∧ ∀ t v, env.f t = some v → VR n m v (a.tmps.getD t undef)

def VOk (P : Program) (W0 : Bw) (m : Plcs) (H : Heap) (w : World) (K : AV → Heap → Prop) (s : Sem Value) : Prop :=
  ∃ v H' m' x w', K v H' ∧ s.run P w = .ok x w' ∧ Ext m m' H H' ∧ Rel W0 m' H' w' ∧ VR H'.length m' v x

def UOk (P : Program) (W0 : Bw) (m : Plcs) (H : Heap) (w : World) (K : AV → Heap → Prop) (s : Sem Unit) : Prop :=
  ∃ H' m' w', K .dead H' ∧ s.run P w = .ok () w' ∧ Ext m m' H H' ∧ Rel W0 m' H' w'

def OpOk (P : Program) (W0 : Bw) (m : Plcs) (H : Heap) (w : World) (K : AV → Heap → Prop) (s : Sem Next) : Prop :=
  ∃ v H' m' x w' nx, K v H' ∧ s.run P w = .ok nx w' ∧ (nx = .value x ∨ nx = .skip ∧ x = undef) ∧ Ext m m' H H' ∧ Rel W0 m' H' w' ∧ VR H'.length m' v x

section
variable {P : Program} {W0 : Bw} {m : Plcs} {H : Heap} {w : World} {K : AV → Heap → Prop}

theorem VOk.op {s : Sem Value} (h : VOk P W0 m H w K s) : OpOk P W0 m H w K (do pure (.value (← s))) := by
  obtain ⟨v, H', m', x, w', h1, h2, h3, h4, h5⟩ := h
  exact ⟨v, H', m', x, w', _, h1, by simp [h2], .inl rfl, h3, h4, h5⟩

theorem UOk.op {s : Sem Unit} (h : UOk P W0 m H w K s) : OpOk P W0 m H w K (do s; pure .skip) := by
  obtain ⟨H', m', w', h1, h2, h3, h4⟩ := h
  exact ⟨_, H', m', undef, w', _, h1, by simp [h2], .inr ⟨rfl, rfl⟩, h3, h4, by simp [VR]⟩

theorem VOk.same {s : Sem Value} {v : AV} {x : Value} (R : Rel W0 m H w) (hK : K v H) (hr : s.run P w = .ok x w) (hv : VR H.length m v x) : VOk P W0 m H w K s :=
  ⟨v, H, m, x, w, hK, hr, Ext.refl _ _, R, hv⟩
end

theorem VOk.int {P : Program} {W0 : Bw} {m : Plcs} {H : Heap} {w : World} {K : AV → Heap → Prop} {s : Sem Value} {k : IntKind} {e : Int} (R : Rel W0 m H w) (hK : K (.int k e) H) (hr : s.run P w = .ok (.int k e) w) : VOk P W0 m H w K s := .same R hK hr (by simp only [VR])
theorem VOk.bool {P : Program} {W0 : Bw} {m : Plcs} {H : Heap} {w : World} {K : AV → Heap → Prop} {s : Sem Value} {e : Bool} (R : Rel W0 m H w) (hK : K (.bool e) H) (hr : s.run P w = .ok (.bool e) w) : VOk P W0 m H w K s := .same R hK hr (by simp only [VR])
theorem VOk.str {P : Program} {W0 : Bw} {m : Plcs} {H : Heap} {w : World} {K : AV → Heap → Prop} {s : Sem Value} {e : List UInt8} (R : Rel W0 m H w) (hK : K (.str e) H) (hr : s.run P w = .ok (.string ⟨e.toArray⟩) w) : VOk P W0 m H w K s := .same R hK hr (by simp only [VR])

/-! ### Constants and operands -/
theorem constCell_ok {n : Nat} {m : Plcs} {x : Value} {v : AV} (h : constCell x = some v) : VR n m v x ∧ v.one = true := by
  unfold constCell at h
  split at h <;> first
    | (cases h; done)
    | (cases h; simp [VR, AV.one]; done)

theorem constCells_ok {n : Nat} {m : Plcs} : ∀ {l : List Value} {c : List AV}, constCells l = some c → VRL n m c l ∧ Ones c
  | [], c, h => by simp only [constCells] at h; cases h; exact ⟨by simp [VRL], fun v hv => by simp at hv⟩
  | x :: l, c, h => by
    simp only [constCells] at h
    split at h
    · rename_i a r ha hr
      cases h
      obtain ⟨h1, h2⟩ := constCell_ok (n := n) (m := m) ha
      obtain ⟨h3, h4⟩ := constCells_ok (n := n) (m := m) hr
      exact ⟨by simp only [VRL]; exact ⟨x, l, rfl, h1, h3⟩, fun v hv => by rcases List.mem_cons.1 hv with rfl | hv; exact h2; exact h4 v hv⟩
    · cases h

theorem constAV_ok {n : Nat} {m : Plcs} {x : Value} {v : AV} (h : constAV x = some v) : VR n m v x := by
  unfold constAV at h
  split at h
  · rename_i cs
    cases hc : constCells cs.toList with
    | none => rw [hc] at h; cases h
    | some c =>
      rw [hc] at h; cases h
      obtain ⟨h1, h2⟩ := constCells_ok (n := n) (m := m) hc
      simp only [VR]
      exact ⟨h2, cs, rfl, h1⟩
  · exact (constCell_ok h).1

theorem opd_ok {n : Nat} {m : Plcs} {env : Env} {a : Act} (E : EnvR n m env a) {x : Operand} {x' : Opd} (h : opd x = some x') {K : AV → Prop} (hk : opK env x' K) : ∃ v, K v ∧ VR n m v (a.eval x) := by
  unfold opK at hk
  rw [ob_iff] at hk
  obtain ⟨v, hv, hK⟩ := hk
  refine ⟨v, hK, ?_⟩
  cases x with
  | tmp t =>
    simp only [opd] at h; cases h
    simp only [Act.eval]
    exact E.2 t v hv
  | const c =>
    simp only [opd] at h
    cases hc : constAV c with
    | none => rw [hc] at h; cases h
    | some u =>
      rw [hc] at h; cases h
      simp only [Opd.look] at hv; cases hv
      exact constAV_ok hc
  | global g =>
    simp only [opd] at h; cases h
    simp only [Opd.look] at hv; cases hv
    simp only [VR, Act.eval, adr, Id.blk, Id.beg, Id.ok]; simp
  | func f =>
    simp only [opd] at h; cases h
    simp only [Opd.look] at hv; cases hv
    simp only [VR, Act.eval, VRL]
    exact ⟨#[], #[], rfl, rfl, rfl⟩

theorem opds_ok {n : Nat} {m : Plcs} {env : Env} {a : Act} (E : EnvR n m env a) : ∀ {l : List Operand} {l' : List Opd}, opds l = some l' → ∀ {K : List AV → Prop}, opsK env l' K → ∃ vs, K vs ∧ VRL n m vs (l.map a.eval)
  | [], l', h, K, hk => by simp only [opds] at h; cases h; exact ⟨[], hk, by simp [VRL]⟩
  | x :: l, l', h, K, hk => by
    simp only [opds] at h
    split at h
    · rename_i x' r hx hr
      cases h
      simp only [opsK] at hk
      obtain ⟨v, hk, hv⟩ := opd_ok E hx hk
      obtain ⟨vs, hk, hvs⟩ := opds_ok E hr hk
      exact ⟨v :: vs, hk, by simp only [List.map_cons, VRL]; exact ⟨_, _, rfl, hv, hvs⟩⟩
    · cases h

theorem opds_ok' {n : Nat} {m : Plcs} {env : Env} {a : Act} (E : EnvR n m env a) {l : Array Operand} {l' : List Opd} (h : opds l.toList = some l') {K : List AV → Prop} (hk : opsK env l' K) : ∃ vs, K vs ∧ VRL n m vs (l.map a.eval).toList := by
  obtain ⟨vs, h1, h2⟩ := opds_ok E h hk
  exact ⟨vs, h1, by simpa using h2⟩

/-! ### Types -/
theorem infoOf_some {P : Program} {t : TypeId} {n b : Nat} (h : infoOf P t = some (n, b)) : ∃ i, P.info? t = some i ∧ i.size = n ∧ i.bytes = b := by
  unfold infoOf at h
  cases hi : P.info? t with
  | none => rw [hi] at h; cases h
  | some i => rw [hi] at h; simp only [Option.map_some, Option.some.injEq, Prod.mk.injEq] at h; exact ⟨i, rfl, h.1, h.2⟩

theorem run_size {P : Program} {t : TypeId} {i : TypeInfo} (h : P.info? t = some i) (w : World) : (sizeOf t).run P w = .ok i.size w := by
  simp [sizeOf, typeInfo, h]

theorem run_isAgg {P : Program} {t : TypeId} {d : TypeDesc} (h : P.underlying t = some d) (w : World) :
    (isAgg t).run P w = .ok (match d with | .struct _ | .array _ _ => true | _ => false) w := by
  cases d <;> simp [isAgg, run_underlying h]

theorem tyOf_agg {P : Program} {t : TypeId} (h : tyOf P t = some .agg) (w : World) : (isAgg t).run P w = .ok true w := by
  unfold tyOf at h
  split at h <;> simp_all [run_isAgg]

theorem tyOf_one {P : Program} {t : TypeId} {y : Ty} (h : tyOf P t = some (.one y)) (w : World) : (isAgg t).run P w = .ok false w := by
  unfold tyOf at h
  split at h
  all_goals first
    | (cases h; done)
    | (rename_i hd; rw [run_isAgg hd]; done)
    | skip
  rename_i d h1 h2 h3 h4 h5 h6 h7 h8 h9 hd
  rw [run_isAgg hd]
  cases d <;> first | rfl | (exfalso; simp_all; done)

theorem zeroOf_some {P : Program} {t : TypeId} {c : List AV} (h : zeroOf P t = some c) {n : Nat} {m : Plcs} : ∃ z, (∀ w, (zeroValue t).run P w = .ok z w) ∧ VRL n m c z.cells.toList ∧ Ones c := by
  unfold zeroOf at h
  cases hi : P.info? t with
  | none => simp [hi] at h
  | some i =>
    cases hz : i.zero with
    | none => simp [hi, hz] at h
    | some z =>
      simp only [hi, Option.bind_some, hz] at h
      obtain ⟨h1, h2⟩ := constCells_ok (n := n) (m := m) h
      exact ⟨z, fun w => by simp [zeroValue, typeInfo, hi, hz], h1, h2⟩

theorem zeroVal_some {P : Program} {t : TypeId} {v : AV} (h : zeroVal P t = some v) {n : Nat} {m : Plcs} : ∃ z, (∀ w, (zeroValue t).run P w = .ok z w) ∧ VR n m v z := by
  unfold zeroVal at h
  cases hi : P.info? t with
  | none => simp [hi] at h
  | some i =>
    cases hz : i.zero with
    | none => simp [hi, hz] at h
    | some z =>
      simp only [hi, Option.bind_some, hz] at h
      exact ⟨z, fun w => by simp [zeroValue, typeInfo, hi, hz], constAV_ok h⟩

section
variable {P : Program} {B : Base} {W0 : Bw} (hB : BaseOk B W0) {m : Plcs} {H : Heap} {w : World} {K : AV → Heap → Prop} (R : Rel W0 m H w)
include R

/-! ### Reading and writing -/
omit R in
theorem VR_ptr {n : Nat} {o : Id} {i : Nat} {x : Value} (h : VR n m (.ptr (some (o, i))) x) : o.ok n ∧ x = .pointer (some (adr m o i)) := by simpa only [VR] using h

omit R in
theorem peek_iff {p : AV} {u : AV} : peek B H p = some u ↔ ∃ o i c, p = .ptr (some (o, i)) ∧ cellsOf B H o = some c ∧ c[i]? = some u := by
  unfold peek
  split
  · rename_i o i
    cases hc : cellsOf B H o with
    | none => simp [hc]
    | some c =>
      simp only [Option.bind_some, hc]
      constructor
      · intro h; exact ⟨o, i, c, rfl, hc, h⟩
      · rintro ⟨o', i', c', h1, h2, h3⟩; cases h1; rw [hc] at h2; cases h2; exact h3
  · rename_i hne
    constructor
    · intro h; cases h
    · rintro ⟨o, i, c, rfl, _⟩; exact absurd rfl (hne o i)

include hB in
theorem ok_ld {t : TypeId} {ty : Ty} (ht : tyOf P t = some (.one ty)) {p : AV} {x : Value} (hx : VR H.length m p x) (h : ob (peek B H p) fun v => tyK ty v fun v => K v H) :
    VOk P W0 m H w K (Instr.loadAt t x) := by
  obtain ⟨u, hu, hk⟩ := ob_iff.1 h
  obtain ⟨o, i, c, rfl, hc, hi⟩ := peek_iff.1 hu
  obtain ⟨_, rfl⟩ := VR_ptr hx
  obtain ⟨_, y, hy, hr⟩ := R.cell hB hc hi
  exact .same R (tyK_imp hk).2 (by simp [Instr.loadAt, Instr.sureAddr, loadVar, tyOf_one ht, hy]) hr

include hB in
theorem ok_ldA {t : TypeId} (ht : tyOf P t = some .agg) {n b : Nat} (hi : infoOf P t = some (n, b)) {p : AV} {x : Value} (hx : VR H.length m p x) (h : ob (peekN B H n p) fun c => K (.agg c) H) :
    VOk P W0 m H w K (Instr.loadAt t x) := by
  obtain ⟨l, hl, hk⟩ := ob_iff.1 h
  obtain ⟨i, hi1, hi2, _⟩ := infoOf_some hi
  unfold peekN at hl
  split at hl
  · rename_i o j
    obtain ⟨_, rfl⟩ := VR_ptr hx
    obtain ⟨h0, xs, h1, h2, h3⟩ := R.cellsAt hB hl
    refine .same R hk ?_ (by simp only [VR]; exact ⟨h0, xs.toArray, rfl, by simpa using h2⟩)
    have := run_loadCells_list (P := P) w (adr m o j) xs h3
    simp only [Instr.loadAt, Instr.sureAddr, loadVar, pure, Sem.run_bind, Sem.run_pure', Result.andThen_ok, tyOf_agg ht, if_true, run_size hi1, hi2, ← h1, this]
  · cases hl

theorem ok_st {t : TypeId} {n b : Nat} (hi : infoOf P t = some (n, b)) {p v : AV} {x y : Value} (hx : VR H.length m p x) (hy : VR H.length m v y)
    (h : ob v.cells? fun c => if c.length = n then ob (poke H p c) fun H' => K .dead H' else False) : UOk P W0 m H w K (Instr.storeAt t x y) := by
  obtain ⟨c, hc, h⟩ := ob_iff.1 h
  split at h
  · rename_i hlen
    obtain ⟨H', hp, hk⟩ := ob_iff.1 h
    unfold poke at hp
    split at hp
    · rename_i o i
      obtain ⟨_, rfl⟩ := VR_ptr hx
      obtain ⟨h1, h2⟩ := VR_cells hy hc
      obtain ⟨w', hw', R'⟩ := R.pokes (P := P) (j := 0) hp h1 h2
      obtain ⟨inf, hi1, hi2, _⟩ := infoOf_some hi
      have hsz : y.cells.size = n := by have := VRL_len h2; simp at this; omega
      refine ⟨H', m, w', hk, ?_, ⟨by rw [pokeAt_length hp]; exact Nat.le_refl _, fun _ _ => rfl⟩, R'⟩
      simp only [Instr.storeAt, Instr.sureAddr, storeVar, pure, Sem.run_bind, Sem.run_pure', Result.andThen_ok, run_size hi1, hi2, hsz, ne_eq, not_true_eq_false, if_false]
      exact hw'
    · cases hp
  · exact h.elim

/-! ### New variables -/
omit R in
theorem VRL_ones_len {n : Nat} {c : List AV} {xs : Array Value} (h : VRL n m c xs.toList) : xs.size = c.length := by simpa using VRL_len h

theorem ok_var {c : List AV} {xs : Array Value} (e : TypeId) (h1 : Ones c) (h2 : VRL H.length m c xs.toList) (hk : K (.ptr (some (.new H.length, 0))) (H ++ [.var c])) (s : Sem Value)
    (hs : s.run P w = .ok (.pointer (some ⟨w.heap.size, 0, none⟩)) (w.alloc (.cells xs e))) : VOk P W0 m H w K s := by
  have R' := R.newCells c xs h1 h2 e true
  simp only [if_true] at R'
  refine ⟨_, _, _, _, _, hk, hs, Ext.upd m H _ _, R', ?_⟩
  simp only [VR, Id.ok, adr, Id.blk, Id.beg, upd_same]
  simp

theorem ok_box {t : TypeId} {n b : Nat} (hi : infoOf P t = some (n, b)) {v : AV} {x : Value} (hx : VR H.length m v x)
    (h : ob v.cells? fun c => if c.length = n then K (.ptr (some (.new H.length, 0))) (H ++ [.var c]) else False) : VOk P W0 m H w K (Instr.box t x) := by
  obtain ⟨c, hc, h⟩ := ob_iff.1 h
  split at h
  · obtain ⟨h1, h2⟩ := VR_cells hx hc
    exact ok_var R t h1 h2 h _ (by simp [Instr.box, newVar, newRow])
  · exact h.elim

theorem ok_alloc {t : TypeId} {z : List AV} (hz : zeroOf P t = some z) (h : K (.ptr (some (.new H.length, 0))) (H ++ [.var z])) : VOk P W0 m H w K (Instr.alloc t true (.tuple #[])) := by
  obtain ⟨v, hv, h2, h1⟩ := zeroOf_some (n := H.length) (m := m) hz
  exact ok_var R t h1 h2 h _ (by simp [Instr.alloc, hv, newVar, newRow])

end

/-! ### Parts -/
theorem foldl_put (off : Nat) : ∀ (l : List Value) (j : Nat) (cells : Array Value), off + j + l.length ≤ cells.size →
    ((l.zipIdx j).foldl (fun cs (p : Value × Nat) => cs.setIfInBounds (off + p.2) p.1) cells).toList = cells.toList.take (off + j) ++ l ++ cells.toList.drop (off + j + l.length)
  | [], j, cells, _ => by simp
  | x :: l, j, cells, h => by
    simp only [List.zipIdx_cons, List.foldl_cons, List.length_cons] at h ⊢
    rw [foldl_put off l (j + 1) _ (by simp; omega)]
    have hlt : off + j < cells.toList.length := by simp; omega
    rw [Array.toList_setIfInBounds, show off + (j + 1) = off + j + 1 by omega]
    rw [List.take_set, List.drop_set_of_lt (by omega), show off + j + 1 + l.length = off + j + (l.length + 1) by omega]
    congr 1
    rw [List.take_succ_eq_append_getElem hlt, List.set_append_right _ _ (by simp; omega)]
    simp [Nat.min_eq_left (Nat.le_of_lt hlt)]
    have : off + j - min (off + j) cells.size = 0 := by simp at hlt; omega
    rw [this]; simp

theorem fill_step {cells : Array Value} {off : Nat} {vs : Array Value} (h : off + vs.size ≤ cells.size) :
    (vs.zipIdx.foldl (fun cs (p : Value × Nat) => cs.setIfInBounds (off + p.2) p.1) cells).toList = cells.toList.take off ++ vs.toList ++ cells.toList.drop (off + vs.size) := by
  have := foldl_put off vs.toList 0 cells (by simpa using h)
  simp only [Nat.add_zero, Array.length_toList] at this
  rw [← this, ← Array.foldl_toList]
  simp

theorem Ones_put {c : List AV} {i : Nat} {vs : List AV} (h : Ones c) (h' : Ones vs) : Ones (putAt c i vs) := by
  intro v hv
  simp only [putAt, List.mem_append] at hv
  rcases hv with (hv | hv) | hv
  · exact h v (List.mem_of_mem_take hv)
  · exact h' v hv
  · exact h v (List.mem_of_mem_drop hv)

theorem VRL_put {n : Nat} {m : Plcs} {c : List AV} {cells : List Value} (h : VRL n m c cells) {vs : List AV} {xs : List Value} (h' : VRL n m vs xs) (i : Nat) :
    VRL n m (putAt c i vs) (cells.take i ++ xs ++ cells.drop (i + xs.length)) := by
  rw [VRL_len h']
  exact VRL_append (VRL_append (VRL_take h i) h') (VRL_drop h _)

theorem parts_ok {n : Nat} {m : Plcs} {env : Env} {a : Act} (E : EnvR n m env a) {place : Nat → Option (Nat × Nat)} : ∀ {ps : List (Nat × Operand)} {l : List (Nat × Nat × Opd)}, zipParts place ps = some l →
    ∀ {K : List (Nat × Nat × AV) → Prop}, partsK env l K → ∃ vs, K vs ∧ ∀ {c : List AV} {cells : Array Value}, VRL n m c cells.toList → Ones c → ∀ {c' : List AV}, layParts c vs = some c' →
      ∃ cells', Instr.fill place cells (ps.map fun p => (p.1, a.eval p.2)) = some cells' ∧ VRL n m c' cells'.toList ∧ Ones c'
  | [], l, h, K, hk => by
    simp only [zipParts] at h; cases h
    refine ⟨[], hk, fun {c} {cells} hc h1 {c'} hl => ?_⟩
    simp only [layParts] at hl; cases hl
    exact ⟨cells, by simp [Instr.fill], hc, h1⟩
  | (i, x) :: ps, l, h, K, hk => by
    simp only [zipParts] at h
    split at h
    · rename_i off sz x' r hp hx hr
      cases h
      simp only [partsK] at hk
      obtain ⟨v, hk, hv⟩ := opd_ok E hx hk
      obtain ⟨vs, hk, hvs⟩ := parts_ok E hr hk
      refine ⟨(off, sz, v) :: vs, hk, fun {c} {cells} hc h1 {c'} hl => ?_⟩
      simp only [layParts] at hl
      split at hl
      · rename_i us hus
        split at hl
        · rename_i hle
          obtain ⟨h2, h3⟩ := VR_cells hv hus
          have e1 : (a.eval x).cells.size = us.length := by simpa using VRL_len h3
          have e2 : cells.size = c.length := by simpa using VRL_len hc
          have hst := fill_step (cells := cells) (off := off) (vs := (a.eval x).cells) (by omega)
          have hput := VRL_put hc h3 off
          rw [Array.length_toList, ← hst] at hput
          obtain ⟨cells', h4, h5, h6⟩ := hvs (cells := (a.eval x).cells.zipIdx.foldl (fun cs (p : Value × Nat) => cs.setIfInBounds (off + p.2) p.1) cells) hput (Ones_put h1 h2) hl
          refine ⟨cells', ?_, h5, h6⟩
          simp only [List.map_cons, Instr.fill, hp]
          rw [if_neg (by simp; omega)]
          exact h4
        · cases hl
      · cases hl
    · cases h

end Go.Am
