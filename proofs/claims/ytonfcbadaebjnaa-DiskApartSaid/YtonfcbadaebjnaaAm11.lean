/- What the translated operations do in the model, continued: maps, interfaces, lengths, copies, the least and the greatest. -/
import Derived.Test.YtonfcbadaebjnaaAm10
namespace Go.Am
open Go Go.RowKit

section
variable {P : Program} {B : Base} {W0 : Bw} {m : Plcs} {H : Heap} {w : World} {K : AV → Heap → Prop} {env : Env} {a : Act}

/-! ### Maps -/
def keyDesc : Ty → TypeDesc → Bool
  | .int _, .int _ | .bool, .bool | .str, .string => true
  | _, _ => false

theorem same_key {n : Nat} {kt : Ty} {D : TypeDesc} (hD : keyDesc kt D = true) {v u : AV} {x y : Value} (hv : VR n m v x) (hu : VR n m u y) {r : Bool} (h : cellEq kt v u = some r) : Instr.sameNow D x y = some r := by
  unfold cellEq at h
  split at h
  · split at h
    · rename_i hk; subst hk; cases h
      simp only [VR] at hv hu; subst hv; subst hu
      cases D <;> simp [keyDesc] at hD; simp [Instr.sameNow]
    · cases h
  · cases h; simp only [VR] at hv hu; subst hv; subst hu; cases D <;> simp [keyDesc] at hD; simp [Instr.sameNow]
  · cases h; simp only [VR] at hv hu; subst hv; subst hu; cases D <;> simp [keyDesc] at hD
    simp only [Instr.sameNow]
    rw [beq_toListBytes, mk_toList, mk_toList]
  · cases h

theorem find_key {n : Nat} {kt : Ty} {D : TypeDesc} (hD : keyDesc kt D = true) {v : AV} {x : Value} (hv : VR n m v x) : ∀ (es : List (AV × AV × Nat)) (l : List MapEntry) (i : Nat) (r : Option (Nat × AV)), EntR n m es l → findAt kt v es i = some r →
    ∃ r', Instr.findNow D x l i = some r' ∧ match r, r' with
      | none, none => True
      | some (j, u), some (j', y) => j = j' ∧ VR n m u y ∧ i ≤ j ∧ ∃ e : AV × Nat, es[j - i]? = some (e.1, u, e.2) ∧ cellEq kt v e.1 = some true
      | _, _ => False
  | [], l, i, r, he, h => by
    simp only [EntR] at he; subst he
    simp only [findAt] at h; cases h
    exact ⟨none, rfl, trivial⟩
  | (k, u, b) :: es, l, i, r, he, h => by
    simp only [EntR] at he
    obtain ⟨e, l', rfl, hk, hu, hb, hr⟩ := he
    simp only [findAt] at h
    cases hc : cellEq kt v k with
    | none => rw [hc] at h; cases h
    | some q =>
      rw [hc] at h
      have hs := same_key hD hv hk hc
      cases q with
      | true => simp only at h; cases h; exact ⟨some (i, e.val), by simp [Instr.findNow, hs], rfl, hu, Nat.le_refl _, (k, b), by simp, hc⟩
      | false =>
        simp only at h
        obtain ⟨r', h1, h2⟩ := find_key hD hv es l' (i + 1) r hr h
        refine ⟨r', by simp [Instr.findNow, hs, h1], ?_⟩
        cases r with
        | none => cases r' <;> simp_all
        | some p =>
          cases r' with
          | none => simp_all
          | some p' =>
            obtain ⟨h3, h4, h5, e', h6, h7⟩ := h2
            refine ⟨h3, h4, by omega, e', ?_, h7⟩
            rw [show p.1 - i = (p.1 - (i + 1)) + 1 by omega]
            simpa using h6

theorem run_checkKey {n : Nat} (b : Bool) {kt : Ty} {t : TypeId} {D : TypeDesc} (ht : P.underlying t = some D) (hD : keyDesc kt D = true) (x : Value) : (Instr.checkKey b (n + 1) t x).run P w = .ok () w := by
  cases D <;> cases kt <;> simp [keyDesc] at hD <;> cases x <;> simp [Instr.checkKey, run_underlying ht]

theorem entriesOf_some (R : Rel W0 m H w) {v : AV} {x : Value} (hv : VR H.length m v x) {es : List (AV × AV × Nat)} (h : entriesOf H v = some es) :
    (x = .map none ∧ es = []) ∨ ∃ r l clock, x = .map (some r) ∧ w.heap[r]? = some (.map l clock) ∧ EntR H.length m es l.toList := by
  unfold entriesOf at h
  split at h
  · simp only [VR] at hv; cases h; exact .inl ⟨hv, rfl⟩
  · rename_i k
    split at h
    · rename_i es' clock hk
      cases h
      simp only [VR] at hv
      obtain ⟨_, l, h1, h2⟩ := R.objs k _ hk
      exact .inr ⟨_, l, clock, hv.2, h1, h2⟩
    · cases h
  · cases h

theorem EntR_len {n : Nat} : ∀ {es : List (AV × AV × Nat)} {l : List MapEntry}, EntR n m es l → l.length = es.length
  | [], _, h => by simp only [EntR] at h; simp [h]
  | (_, _, _) :: es, _, h => by
    simp only [EntR] at h
    obtain ⟨e, l', rfl, _, _, _, h⟩ := h
    simp [EntR_len h]

theorem run_getObj_map {r : Nat} {l : Array MapEntry} {clock : Nat} (h : w.heap[r]? = some (.map l clock)) : (getObj r).run P w = .ok (.map l clock) w := by
  simp [getObj, Sem.run, h]

theorem run_setObj_map {r : Nat} {l : Array MapEntry} {clock : Nat} (h : w.heap[r]? = some (.map l clock)) (o : Obj) : (setObj r o).run P w = .ok () { w with heap := w.heap.setIfInBounds r o } := by
  simp [setObj, Sem.run, h]

theorem ok_lookup (E : EnvR H.length m env a) (R : Rel W0 m H w) {t kt vt : TypeId} {T vT : Ty} {D : TypeDesc} (ht : P.underlying t = some (.map kt vt)) (hkt : P.underlying kt = some D) (hD : keyDesc T D = true) {z : AV} (hz : zeroVal P vt = some z) {x y : Operand} {x' y' : Opd} (hx : opd x = some x') (hy : opd y = some y') {ok : Bool}
    (h : opK env x' fun v => ob (entriesOf H v) fun es => opK env y' fun k => ob (findAt T k es 0) fun r => tyK vT (lookVal r z) fun u => K (if ok then .tuple [u, .bool r.isSome] else u) H) :
    VOk P W0 m H w K (Instr.lookup t (a.eval x) (a.eval y) ok) := by
  obtain ⟨v, ha, hv⟩ := opd_ok E hx h
  obtain ⟨es, hes, hb⟩ := ob_iff.1 ha
  obtain ⟨u, hc, hu⟩ := opd_ok E hy hb
  obtain ⟨r, hr, hd⟩ := ob_iff.1 hc
  have hk := (tyK_imp hd).2
  obtain ⟨zv, hzv, hzr⟩ := zeroVal_some (n := H.length) (m := m) hz
  have fin : ∀ (l : List MapEntry), EntR H.length m es l → ∃ r' q, (Instr.findKey kt (a.eval y) l).run P w = .ok r' w ∧ VR H.length m (if ok then .tuple [lookVal r z, .bool r.isSome] else lookVal r z) q ∧
      q = (if ok then .tuple #[(r'.map (·.2)).getD zv, .bool r'.isSome] else (r'.map (·.2)).getD zv) := fun l hl => by
    obtain ⟨r', h1, h2⟩ := find_key (n := H.length) hD hu es l 0 r hl hr
    refine ⟨r', _, by simp [Instr.findKey, run_underlying hkt, h1], ?_, rfl⟩
    have key : VR H.length m (lookVal r z) ((r'.map (·.2)).getD zv) ∧ r.isSome = r'.isSome := by
      cases r with
      | none =>
        cases r' with
        | some p => exact absurd h2 (by simp)
        | none => exact ⟨hzr, rfl⟩
      | some p =>
        cases r' with
        | none => exact absurd h2 (by simp)
        | some p' => exact ⟨h2.2.1, rfl⟩
    cases ok
    · exact key.1
    · simp only [VR, if_true, VRL]
      exact ⟨_, rfl, _, _, rfl, key.1, _, _, rfl, by rw [key.2], rfl⟩
  rcases entriesOf_some R hv hes with ⟨hxv, rfl⟩ | ⟨rr, l, clock, hxv, hl, hR⟩
  · rw [hxv]
    obtain ⟨r', q, h1, h2, h3⟩ := fin [] (by simp [EntR])
    refine .same R hk ?_ h2
    rw [h3]
    cases r' <;> simp [Instr.lookup, run_underlying ht, run_checkKey (n := 9999) _ hkt hD, h1, hzv]
  · rw [hxv]
    obtain ⟨r', q, h1, h2, h3⟩ := fin l.toList hR
    refine .same R hk ?_ h2
    rw [h3]
    cases r' <;> simp [Instr.lookup, run_underlying ht, run_getObj_map hl, run_checkKey (n := 9999) _ hkt hD, h1, hzv]

/-- A map's block is turned. -/
theorem Rel.setMap (R : Rel W0 m H w) {k : Nat} {es : List (AV × AV × Nat)} {clock : Nat} (hk : H[k]? = some (.map es clock)) (es' : List (AV × AV × Nat)) (clock' : Nat) (l' : Array MapEntry) (h : EntR H.length m es' l'.toList) :
    Rel W0 m (H.set k (.map es' clock')) { w with heap := w.heap.setIfInBounds (m k).blk (.map l' clock') } := by
  have hi0 : k < H.length := by
    rcases Nat.lt_or_ge k H.length with h' | h'
    · exact h'
    · simp [List.getElem?_eq_none h'] at hk
  obtain ⟨hB0, l, h1, _⟩ := R.objs k _ hk
  have hlt : (m k).blk < w.heap.size := (R.objs k _ hk).lt rfl
  have hother : ∀ j, j ≠ (m k).blk → (w.heap.setIfInBounds (m k).blk (.map l' clock'))[j]? = w.heap[j]? := fun j hj => Array.getElem?_setIfInBounds_ne (by omega)
  have back : ∀ {i : Nat} {o' : AObj}, (H.set k (.map es' clock'))[i]? = some o' → o'.live = true → ∃ o'', H[i]? = some o'' ∧ o''.live = true := fun {i} {o'} hl hv => by
    rw [List.getElem?_set] at hl
    by_cases e1 : k = i
    · subst e1; exact ⟨_, hk, rfl⟩
    · rw [if_neg e1] at hl; exact ⟨o', hl, hv⟩
  refine ⟨R.below.trans rfl rfl rfl (by simp) (fun j hj => hother j (fun e => hB0 (by rw [← e]; exact hj))), fun i o hi => ?_, fun i j o o' hi hj ho ho' hne => ?_⟩
  · rw [List.length_set]
    rw [List.getElem?_set] at hi
    by_cases e1 : k = i
    · subst e1
      rw [if_pos rfl, if_pos hi0] at hi
      cases hi
      exact ⟨hB0, l', by simp [hlt], h⟩
    · rw [if_neg e1] at hi
      refine ObjR_mono (Nat.le_refl _) (by rcases Nat.lt_or_ge i H.length with h' | h'; exact h'; simp [List.getElem?_eq_none h'] at hi) (fun _ _ => rfl) (fun hlv => hother _ ?_) (R.objs i o hi)
      exact fun he => R.inj k i _ o hk hi rfl hlv e1 he.symm
  · obtain ⟨q1, hq1, hv1⟩ := back hi ho
    obtain ⟨q2, hq2, hv2⟩ := back hj ho'
    exact R.inj i j q1 q2 hq1 hq2 hv1 hv2 hne

theorem EntR_append {n : Nat} : ∀ {es es' : List (AV × AV × Nat)} {l l' : List MapEntry}, EntR n m es l → EntR n m es' l' → EntR n m (es ++ es') (l ++ l')
  | [], _, _, _, h, h' => by simp only [EntR] at h; subst h; simpa using h'
  | (k, v, b) :: es, _, _, _, h, h' => by
    simp only [EntR] at h
    obtain ⟨e, r, rfl, h1, h2, h3, h4⟩ := h
    simp only [List.cons_append, EntR]
    exact ⟨e, _, rfl, h1, h2, h3, EntR_append h4 h'⟩

theorem EntR_modify {n : Nat} {k v : AV} {x y : Value} (hk : VR n m k x) (hv : VR n m v y) : ∀ {es : List (AV × AV × Nat)} {l : List MapEntry} (j : Nat), EntR n m es l →
    EntR n m (es.modify j fun e => (k, v, e.2.2)) (l.modify j fun e => { e with key := x, val := y })
  | [], _, j, h => by simp only [EntR] at h; subst h; simp [EntR]
  | (k0, v0, b) :: es, _, j, h => by
    simp only [EntR] at h
    obtain ⟨e, r, rfl, h1, h2, h3, h4⟩ := h
    cases j with
    | zero => simp only [List.modify_zero_cons, EntR]; exact ⟨_, _, rfl, hk, hv, h3, h4⟩
    | succ j => simp only [List.modify_succ_cons, EntR]; exact ⟨_, _, rfl, h1, h2, h3, EntR_modify hk hv j h4⟩

theorem EntR_get {n : Nat} : ∀ {es : List (AV × AV × Nat)} {l : List MapEntry}, EntR n m es l → ∀ {i : Nat} {e : AV × AV × Nat}, es[i]? = some e → ∃ x, l[i]? = some x ∧ VR n m e.1 x.key ∧ VR n m e.2.1 x.val ∧ x.born = e.2.2
  | [], _, _, i, e, h => by simp at h
  | (k, v, b) :: es, _, h, i, e, he => by
    simp only [EntR] at h
    obtain ⟨x, r, rfl, h1, h2, h3, h4⟩ := h
    cases i with
    | zero => simp at he; subst he; exact ⟨x, by simp, h1, h2, h3⟩
    | succ i => simp at he; obtain ⟨y, hy, h5⟩ := EntR_get h4 he; exact ⟨y, by simpa using hy, h5⟩

theorem EntR_erase {n : Nat} : ∀ {es : List (AV × AV × Nat)} {l : List MapEntry} (j : Nat), EntR n m es l → EntR n m (es.eraseIdx j) (l.eraseIdx j)
  | [], _, j, h => by simp only [EntR] at h; subst h; simp [EntR]
  | (k0, v0, b) :: es, _, j, h => by
    simp only [EntR] at h
    obtain ⟨e, r, rfl, h1, h2, h3, h4⟩ := h
    cases j with
    | zero => simpa using h4
    | succ j => simp only [List.eraseIdx_cons_succ, EntR]; exact ⟨_, _, rfl, h1, h2, h3, EntR_erase j h4⟩

theorem stays_same {n : Nat} {kt : Ty} {v u : AV} {x y : Value} (hv : VR n m v x) (hu : VR n m u y) (h : cellEq kt v u = some true) : (Instr.keyThatStays y x).run P w = .ok x w ∧ v = u := by
  unfold cellEq at h
  split at h
  · split at h
    · rename_i hk; subst hk
      simp only [Option.some.injEq, beq_iff_eq] at h; subst h
      simp only [VR] at hv hu; subst hv; subst hu
      exact ⟨by simp [Instr.keyThatStays, Instr.sameBits], rfl⟩
    · cases h
  · simp only [Option.some.injEq, beq_iff_eq] at h; subst h
    simp only [VR] at hv hu; subst hv; subst hu
    exact ⟨by simp [Instr.keyThatStays, Instr.sameBits], rfl⟩
  · simp only [Option.some.injEq, beq_iff_eq] at h; subst h
    simp only [VR] at hv hu; subst hv; subst hu
    exact ⟨by simp [Instr.keyThatStays, Instr.sameBits, beq_toListBytes], rfl⟩
  · cases h

theorem ok_mapSet (E : EnvR H.length m env a) (R : Rel W0 m H w) {t kt vt : TypeId} {T : Ty} {D : TypeDesc} (ht : P.underlying t = some (.map kt vt)) (hkt : P.underlying kt = some D) (hD : keyDesc T D = true) {x y v : Operand} {x' y' v' : Opd} (hx : opd x = some x') (hy : opd y = some y') (hv' : opd v = some v')
    (h : opK env x' fun w => opK env y' fun k => opK env v' fun u => match w with
    | .map (some (.new i)) => match H[i]? with
      | some (.map es clock) => ob (findAt T k es 0) fun r => match r with
        | some (j, _) => K .dead (H.set i (.map (es.modify j fun e => (k, u, e.2.2)) clock))
        | none => K .dead (H.set i (.map (es ++ [(k, u, clock)]) (clock + 1)))
      | _ => False
    | _ => False) : UOk P W0 m H w K (Instr.mapUpdate t (a.eval x) (a.eval y) (a.eval v)) := by
  obtain ⟨q, ha, hq⟩ := opd_ok E hx h
  obtain ⟨k, hb, hk⟩ := opd_ok E hy ha
  obtain ⟨u, hc, hu⟩ := opd_ok E hv' hb
  split at hc
  · rename_i i
    split at hc
    · rename_i es clock hi
      obtain ⟨r, hr, hd⟩ := ob_iff.1 hc
      simp only [VR] at hq
      obtain ⟨_, l, h1, h2⟩ := R.objs i _ hi
      obtain ⟨r', h3, h4⟩ := find_key (n := H.length) hD hk es l.toList 0 r h2 hr
      have hfk : (Instr.findKey kt (a.eval y) l.toList).run P w = .ok r' w := by simp [Instr.findKey, run_underlying hkt, h3]
      rw [hq.2]
      cases r with
      | none =>
        cases r' with
        | some p => exact absurd h4 (by simp)
        | none =>
          refine ⟨_, m, _, hd, ?_, ⟨by simp, fun _ _ => rfl⟩, R.setMap hi _ _ (l.push { key := a.eval y, val := a.eval v, born := clock }) ?_⟩
          · simp only [Instr.mapUpdate, Sem.run_bind, run_underlying ht, Result.andThen_ok, Id.blk, run_getObj_map h1, run_checkKey (n := 9999) _ hkt hD, hfk, run_setObj_map h1]
          · rw [Array.toList_push]
            exact EntR_append h2 (by simp only [EntR]; exact ⟨_, _, rfl, hk, hu, rfl, rfl⟩)
      | some p =>
        cases r' with
        | none => exact absurd h4 (by simp)
        | some p' =>
          obtain ⟨j, u0⟩ := p
          obtain ⟨j', y0⟩ := p'
          obtain ⟨rfl, _, _, e, he, hce⟩ := h4
          simp only [Nat.sub_zero] at he
          obtain ⟨x0, hx0, hkx, _, _⟩ := EntR_get h2 he
          obtain ⟨hst, _⟩ := stays_same (P := P) (w := w) hk hkx hce
          rw [Array.getElem?_toList] at hx0
          refine ⟨_, m, _, hd, ?_, ⟨by simp, fun _ _ => rfl⟩, R.setMap hi _ _ (l.modify j fun e => { e with key := a.eval y, val := a.eval v }) ?_⟩
          · simp only [Instr.mapUpdate, Sem.run_bind, run_underlying ht, Result.andThen_ok, Id.blk, run_getObj_map h1, run_checkKey (n := 9999) _ hkt hD, hfk, hx0, Option.map_some, Option.getD_some, hst, run_setObj_map h1]
          · rw [Array.toList_modify]
            exact EntR_modify hk hu j h2
    · exact hc.elim
  · exact hc.elim

theorem ok_mapDel (E : EnvR H.length m env a) (R : Rel W0 m H w) {t t2 kt vt ty : TypeId} {T : Ty} {D : TypeDesc} (ht : P.underlying t = some (.map kt vt)) (hkt : P.underlying kt = some D) (hD : keyDesc T D = true) {x y : Operand} {x' y' : Opd} (hx : opd x = some x') (hy : opd y = some y')
    (h : opK env x' fun w => opK env y' fun k => match w with
    | .map (some (.new i)) => match H[i]? with
      | some (.map es clock) => ob (findAt T k es 0) fun r => match r with
        | some (j, _) => K .dead (H.set i (.map (es.eraseIdx j) clock))
        | none => K .dead (H.set i (.map es clock))
      | _ => False
    | _ => False) : VOk P W0 m H w K (Builtin.delete_ #[t, t2] ty #[a.eval x, a.eval y]) := by
  obtain ⟨q, ha, hq⟩ := opd_ok E hx h
  obtain ⟨k, hb, hk⟩ := opd_ok E hy ha
  split at hb
  · rename_i i
    split at hb
    · rename_i es clock hi
      obtain ⟨r, hr, hd⟩ := ob_iff.1 hb
      simp only [VR] at hq
      obtain ⟨_, l, h1, h2⟩ := R.objs i _ hi
      obtain ⟨r', h3, h4⟩ := find_key (n := H.length) hD hk es l.toList 0 r h2 hr
      have hfk : (Instr.findKey kt (a.eval y) l.toList).run P w = .ok r' w := by simp [Instr.findKey, run_underlying hkt, h3]
      rw [hq.2]
      cases r with
      | none =>
        cases r' with
        | some p => exact absurd h4 (by simp)
        | none =>
          refine ⟨_, _, m, .tuple #[], _, hd, ?_, ⟨by simp, fun _ _ => rfl⟩, R.setMap hi _ _ l h2, by simp [VR]⟩
          simp [Builtin.delete_, run_underlying ht, Id.blk, run_getObj_map h1, run_checkKey (n := 9999) _ hkt hD, hfk, run_setObj_map h1]
      | some p =>
        cases r' with
        | none => exact absurd h4 (by simp)
        | some p' =>
          obtain ⟨j, u0⟩ := p
          obtain ⟨j', y0⟩ := p'
          obtain ⟨rfl, _⟩ := h4
          refine ⟨_, _, m, .tuple #[], _, hd, ?_, ⟨by simp, fun _ _ => rfl⟩, R.setMap hi _ _ (l.eraseIdxIfInBounds j) ?_, by simp [VR]⟩
          · simp [Builtin.delete_, run_underlying ht, Id.blk, run_getObj_map h1, run_checkKey (n := 9999) _ hkt hD, hfk, run_setObj_map h1]
          · have : (l.eraseIdxIfInBounds j).toList = l.toList.eraseIdx j := by
              unfold Array.eraseIdxIfInBounds
              split
              · simp
              · rename_i hge; rw [List.eraseIdx_of_length_le (by simpa using hge)]
            rw [this]
            exact EntR_erase j h2
    · exact hb.elim
  · exact hb.elim

theorem ok_range (E : EnvR H.length m env a) (R : Rel W0 m H w) {t kt vt : TypeId} (ht : P.underlying t = some (.map kt vt)) {x : Operand} {x' : Opd} (hx : opd x = some x')
    (h : opK env x' fun v => match v with
    | .map none => K (.ptr (some (.new H.length, 0))) (H ++ [.iter none 0 [] 0])
    | .map (some (.new i)) => match H[i]? with
      | some (.map _ clock) => K (.ptr (some (.new H.length, 0))) (H ++ [.iter (some (.new i)) clock [] clock])
      | _ => False
    | _ => False) : VOk P W0 m H w K (Instr.range t (a.eval x)) := by
  obtain ⟨v, ha, hv⟩ := opd_ok E hx h
  split at ha
  · simp only [VR] at hv; rw [hv]
    have R' := R.new (.mapIter none 0 #[] 0) ⟨w.heap.size, 0, 0⟩ rfl (.iter none 0 [] 0) (by
      simp only [ObjR, upd_same]
      exact ⟨R.below.fresh, World.heap_alloc_new _ _, fun i hi => (by cases hi), trivial⟩)
    refine ⟨_, _, _, .pointer (some ⟨w.heap.size, 0, none⟩), _, ha, ?_, Ext.upd m H _ _, R', ?_⟩
    · simp [Instr.range, run_underlying ht]
    · simp only [VR, Id.ok, adr, Id.blk, Id.beg, upd_same]; simp
  · rename_i i
    split at ha
    · rename_i es clock hi
      simp only [VR] at hv; rw [hv.2]
      obtain ⟨_, l, h1, h2⟩ := R.objs i _ hi
      have hi0 : i < H.length := by
        rcases Nat.lt_or_ge i H.length with h' | h'
        · exact h'
        · simp [List.getElem?_eq_none h'] at hi
      have R' := R.new (.mapIter (some (m i).blk) clock #[] clock) ⟨w.heap.size, 0, 0⟩ rfl (.iter (some (.new i)) clock [] clock) (by
        simp only [ObjR, upd_same]
        refine ⟨R.below.fresh, ?_, fun j hj => (by cases hj; show i < H.length + 1; omega), trivial⟩
        simp only [Option.map_some, Id.blk, upd_other m _ (show i ≠ H.length by omega)]
        exact World.heap_alloc_new _ _)
      refine ⟨_, _, _, .pointer (some ⟨w.heap.size, 0, none⟩), _, ha, ?_, Ext.upd m H _ _, R', ?_⟩
      · simp [Instr.range, run_underlying ht, Id.blk, run_getObj_map h1]
      · simp only [VR, Id.ok, adr, Id.blk, Id.beg, upd_same]; simp
    · exact ha.elim
  · exact ha.elim

/-! ### Tuples, interfaces -/
theorem ok_extract (E : EnvR H.length m env a) (R : Rel W0 m H w) {ty : Option Ty} {i : Nat} {x : Operand} {x' : Opd} (hx : opd x = some x')
    (h : opK env x' fun v => match v with
    | .tuple l => ob l[i]? fun u => extK ty u fun u => K u H
    | _ => False) : VOk P W0 m H w K (Instr.extract (a.eval x) i) := by
  obtain ⟨v, ha, hv⟩ := opd_ok E hx h
  split at ha
  · rename_i l
    obtain ⟨u, hu, hb⟩ := ob_iff.1 ha
    simp only [VR] at hv
    obtain ⟨l', hv, hl⟩ := hv
    obtain ⟨z, hz, hr⟩ := VRL_get hl hu
    rw [Array.getElem?_toList] at hz
    rw [hv]
    have hk : K u H := by
      cases ty with
      | none => exact hb
      | some t => exact (tyK_imp (show tyK t u (fun u => K u H) from hb)).2
    exact .same R hk (by simp [Instr.extract, hz]) hr
  · exact ha.elim

theorem ok_makeIface (E : EnvR H.length m env a) (R : Rel W0 m H w) {t : TypeId} {D : TypeDesc} (ht : P.underlying t = some D) (hD : ∀ ms, D ≠ .interface ms) {x : Operand} {x' : Opd} (hx : opd x = some x')
    (h : opK env x' fun v => pLive v fun v => K (.iface t v) H) : VOk P W0 m H w K (Instr.makeInterface t (a.eval x)) := by
  obtain ⟨v, ha, hv⟩ := opd_ok E hx h
  have hk := (pLive_iff.1 ha).2
  refine .same R hk (x := .iface t (a.eval x)) ?_ (by simp only [VR]; exact ⟨_, rfl, hv⟩)
  cases D <;> first | exact absurd rfl (hD _) | simp [Instr.makeInterface, run_underlying ht]

theorem ok_assert (E : EnvR H.length m env a) (R : Rel W0 m H w) {xt t : TypeId} {D : TypeDesc} (ht : P.underlying t = some D) (hD : ∀ ms, D ≠ .interface ms) {z : AV} (hz : zeroVal P t = some z) {ok : Bool} {x : Operand} {x' : Opd} (hx : opd x = some x')
    (h : opK env x' fun v => match v with
    | .iface u w => if u = t then K (if ok then .tuple [w, .bool true] else w) H else if ok then K (.tuple [z, .bool false]) H else False
    | .nili => if ok then K (.tuple [z, .bool false]) H else False
    | _ => False) : VOk P W0 m H w K (Instr.typeAssert (a.eval x) xt t ok) := by
  obtain ⟨v, ha, hv⟩ := opd_ok E hx h
  obtain ⟨zv, hzv, hzr⟩ := zeroVal_some (n := H.length) (m := m) hz
  have hno : VR H.length m (.tuple [z, .bool false]) (.tuple #[zv, .bool false]) := by simp only [VR, VRL]; exact ⟨_, rfl, _, _, rfl, hzr, _, _, rfl, by simp [VR], rfl⟩
  split at ha
  · rename_i u q
    simp only [VR] at hv
    obtain ⟨y, hv, hy⟩ := hv
    rw [hv]
    split at ha
    · rename_i hut; subst hut
      refine .same R ha (x := if ok then .tuple #[y, .bool true] else y) ?_ ?_
      · cases D <;> first | exact absurd rfl (hD _) | (cases ok <;> simp [Instr.typeAssert, run_underlying ht])
      · cases ok
        · simpa using hy
        · simp only [VR, if_true, VRL]; exact ⟨_, rfl, _, _, rfl, hy, _, _, rfl, by simp [VR], rfl⟩
    · rename_i hut
      split at ha
      · rename_i hok; subst hok
        refine .same R ha (x := .tuple #[zv, .bool false]) ?_ hno
        cases D <;> first | exact absurd rfl (hD _) | simp [Instr.typeAssert, run_underlying ht, hut, hzv]
      · exact ha.elim
  · simp only [VR] at hv; rw [hv]
    split at ha
    · rename_i hok; subst hok
      refine .same R ha (x := .tuple #[zv, .bool false]) ?_ hno
      cases D <;> first | exact absurd rfl (hD _) | simp [Instr.typeAssert, run_underlying ht, hzv]
    · exact ha.elim
  · exact ha.elim

theorem ok_makeFunc (E : EnvR H.length m env a) (R : Rel W0 m H w) {fn : Fn} {fs cs : Array Operand} {fs' cs' : List Opd} (hf : opds fs.toList = some fs') (hc : opds cs.toList = some cs')
    (h : opsK env fs' fun p => opsK env cs' fun q => K (.func fn p q) H) : VOk P W0 m H w K (Instr.makeFunc fn (fs.map a.eval) (cs.map a.eval)) := by
  obtain ⟨p, ha, hp⟩ := opds_ok' E hf h
  obtain ⟨q, hb, hq⟩ := opds_ok' E hc ha
  exact VOk.same (x := .func fn (fs.map a.eval) (cs.map a.eval)) R hb (by simp [Instr.makeFunc]) (by simp only [VR]; exact ⟨_, _, rfl, hp, hq⟩)

/-! ### Lengths -/
theorem ok_lenS (E : EnvR H.length m env a) (R : Rel W0 m H w) {t ty : TypeId} (ht : P.underlying t = some .string) {x : Operand} {x' : Opd} (hx : opd x = some x')
    (h : opK env x' fun v => pStr v fun s => K (.int .i64 s.length) H) {ts : Array TypeId} {xs : Array Value} (hts : ts[0]? = some t) (hxs : xs[0]? = some (a.eval x)) : VOk P W0 m H w K (Builtin.len_ ts ty xs) := by
  obtain ⟨v, ha, hv⟩ := opd_ok E hx h
  obtain ⟨s, rfl, hb⟩ := pStr_iff.1 ha
  simp only [VR] at hv
  exact VOk.int R hb (by simp [Builtin.len_, hts, hxs, hv, run_underlying ht, mk_size, goInt])

theorem ok_lenL (E : EnvR H.length m env a) (R : Rel W0 m H w) {t e ty : TypeId} (ht : P.underlying t = some (.slice e)) {x : Operand} {x' : Opd} (hx : opd x = some x')
    (h : opK env x' fun v => ob (lenOf v) fun n => K (.int .i64 n) H) {ts : Array TypeId} {xs : Array Value} (hts : ts[0]? = some t) (hxs : xs[0]? = some (a.eval x)) : VOk P W0 m H w K (Builtin.len_ ts ty xs) := by
  obtain ⟨v, ha, hv⟩ := opd_ok E hx h
  obtain ⟨n, hn, hb⟩ := ob_iff.1 ha
  cases v <;> simp only [lenOf, reduceCtorEq, Option.some.injEq] at hn
  case nils => subst hn; simp only [VR] at hv; exact VOk.int R hb (by simp [Builtin.len_, hts, hxs, hv, run_underlying ht, goInt])
  case slice => subst hn; simp only [VR] at hv; obtain ⟨_, _, _, hv, _⟩ := hv; exact VOk.int R hb (by simp [Builtin.len_, hts, hxs, hv, run_underlying ht, goInt])

theorem ok_lenA (R : Rel W0 m H w) {t e ty : TypeId} {n : Nat} (ht : P.underlying t = some (.array n e)) (h : K (.int .i64 n) H) {ts : Array TypeId} {xs : Array Value} {v : Value} (hts : ts[0]? = some t) (hxs : xs[0]? = some v) : VOk P W0 m H w K (Builtin.len_ ts ty xs) :=
  VOk.int R h (by simp [Builtin.len_, hts, hxs, run_underlying ht, goInt])

theorem ok_lenM (E : EnvR H.length m env a) (R : Rel W0 m H w) {t kt vt ty : TypeId} (ht : P.underlying t = some (.map kt vt)) {x : Operand} {x' : Opd} (hx : opd x = some x')
    (h : opK env x' fun v => ob (entriesOf H v) fun es => K (.int .i64 es.length) H) {ts : Array TypeId} {xs : Array Value} (hts : ts[0]? = some t) (hxs : xs[0]? = some (a.eval x)) : VOk P W0 m H w K (Builtin.len_ ts ty xs) := by
  obtain ⟨v, ha, hv⟩ := opd_ok E hx h
  obtain ⟨es, hes, hb⟩ := ob_iff.1 ha
  rcases entriesOf_some R hv hes with ⟨hxv, rfl⟩ | ⟨r, l, clock, hxv, hl, hR⟩
  · exact VOk.int R hb (by simp [Builtin.len_, hts, hxs, hxv, run_underlying ht, goInt])
  · have := EntR_len hR
    simp only [Array.length_toList] at this
    exact VOk.int R hb (by simp [Builtin.len_, hts, hxs, hxv, run_underlying ht, run_getObj_map hl, goInt, this])

/-! ### The least and the greatest -/
theorem ints_ok (E : EnvR H.length m env a) {k : IntKind} : ∀ {l : List Operand} {l' : List Opd}, opds l = some l' → ∀ {Q : List Int → Prop}, intsK env k l' Q → ∃ ns, Q ns ∧ l.map a.eval = ns.map (Value.int k)
  | [], l', h, Q, hq => by simp only [opds] at h; cases h; exact ⟨[], hq, rfl⟩
  | x :: l, l', h, Q, hq => by
    simp only [opds] at h
    split at h
    · rename_i x' r hx hr
      cases h
      simp only [intsK] at hq
      obtain ⟨v, ha, hv⟩ := opd_ok E hx hq
      obtain ⟨n, rfl, hb⟩ := pInt_iff.1 ha
      obtain ⟨ns, hc, hns⟩ := ints_ok E hr hb
      simp only [VR] at hv
      exact ⟨n :: ns, hc, by simp [hv, hns]⟩
    · cases h

theorem strs_ok (E : EnvR H.length m env a) : ∀ {l : List Operand} {l' : List Opd}, opds l = some l' → ∀ {Q : List (List UInt8) → Prop}, strsK env l' Q → ∃ ns, Q ns ∧ l.map a.eval = ns.map fun s => Value.string ⟨s.toArray⟩
  | [], l', h, Q, hq => by simp only [opds] at h; cases h; exact ⟨[], hq, rfl⟩
  | x :: l, l', h, Q, hq => by
    simp only [opds] at h
    split at h
    · rename_i x' r hx hr
      cases h
      simp only [strsK] at hq
      obtain ⟨v, ha, hv⟩ := opd_ok E hx hq
      obtain ⟨n, rfl, hb⟩ := pStr_iff.1 ha
      obtain ⟨ns, hc, hns⟩ := strs_ok E hr hb
      simp only [VR] at hv
      exact ⟨n :: ns, hc, by simp [hv, hns]⟩
    · cases h

theorem run_minI (k : IntKind) : ∀ (ns : List Int) (x : Int), ((ns.map (Value.int k)).foldlM Builtin.min2 (.int k x)).run P w = .ok (.int k (minInts x ns)) w
  | [], x => by simp [minInts]
  | y :: ns, x => by
    simp only [List.map_cons, List.foldlM_cons, Sem.run_bind, Builtin.min2, Sem.run_pure, Result.andThen_ok, minInts]
    exact run_minI k ns _
theorem run_maxI (k : IntKind) : ∀ (ns : List Int) (x : Int), ((ns.map (Value.int k)).foldlM Builtin.max2 (.int k x)).run P w = .ok (.int k (maxInts x ns)) w
  | [], x => by simp [maxInts]
  | y :: ns, x => by
    simp only [List.map_cons, List.foldlM_cons, Sem.run_bind, Builtin.max2, Sem.run_pure, Result.andThen_ok, maxInts]
    exact run_maxI k ns _
theorem run_minS : ∀ (ns : List (List UInt8)) (x : List UInt8), ((ns.map fun s => Value.string ⟨s.toArray⟩).foldlM Builtin.min2 (.string ⟨x.toArray⟩)).run P w = .ok (.string ⟨(minStrs x ns).toArray⟩) w
  | [], x => by simp [minStrs]
  | y :: ns, x => by
    simp only [List.map_cons, List.foldlM_cons, Sem.run_bind, Builtin.min2, Op.stringOp, asBool, Sem.run_pure, Result.andThen_ok, minStrs, mk_toList]
    have := run_minS ns (if sLess x y || x == y then x else y)
    rw [← this]
    unfold sLess
    split <;> rfl
theorem run_maxS : ∀ (ns : List (List UInt8)) (x : List UInt8), ((ns.map fun s => Value.string ⟨s.toArray⟩).foldlM Builtin.max2 (.string ⟨x.toArray⟩)).run P w = .ok (.string ⟨(maxStrs x ns).toArray⟩) w
  | [], x => by simp [maxStrs]
  | y :: ns, x => by
    simp only [List.map_cons, List.foldlM_cons, Sem.run_bind, Builtin.max2, Op.stringOp, asBool, Sem.run_pure, Result.andThen_ok, maxStrs, mk_toList]
    have := run_maxS ns (if !(sLess x y) then x else y)
    rw [← this]
    unfold sLess
    split <;> rfl

/-! ### Copies -/
theorem ok_copyL (hB : BaseOk B W0) (E : EnvR H.length m env a) (R : Rel W0 m H w) {t u e ty : TypeId} {es b : Nat} (ht : elemOfSlice P t = some e) (hi : infoOf P e = some (es, b)) {d s : Operand} {d' s' : Opd} (hd : opd d = some d') (hs : opd s = some s')
    (h : aop B env H K (.copyL es d' s')) : VOk P W0 m H w K (Builtin.copy_ #[t, u] ty #[a.eval d, a.eval s]) := by
  simp only [aop] at h
  obtain ⟨v, ha, hv⟩ := opd_ok E hd h
  obtain ⟨q, hb, hq⟩ := opd_ok E hs ha
  obtain ⟨n, hn, hc⟩ := ob_iff.1 hb
  obtain ⟨inf, hi1, hi2, _⟩ := infoOf_some hi
  have hadr : ∀ {o : Id} {off len c : Nat} {cap : Option Nat} {a' : Addr}, SlR m o off len es cap a' c → 0 < len → a' = adr m o off := fun {o} {off} {len} {c} {cap} {a'} hsl hp => by
    cases cap with
    | some c'' => exact hsl.2.2 (by have := hsl.1; have := hsl.2.1; omega)
    | none =>
      obtain ⟨_, g1, g2, _, g3, _⟩ := hsl
      have := g3 hp
      cases a'
      simp only at g1 g2 this
      simp [adr, g1, g2, this]
  split at hc
  · rename_i str
    simp only [VR] at hq; rw [hq]
    split at hc
    · rename_i hes; subst hes
      split at hc
      · rename_i o off len es' cap
        split at hc
        · rename_i hes'; subst hes'
          simp only [lenOf, Option.some.injEq] at hn; subst hn
          obtain ⟨H', hp, hk⟩ := ob_iff.1 hc
          simp only [VR] at hv
          obtain ⟨hok, a', c, hv, hsl⟩ := hv
          rw [hv]
          have hfc : (Builtin.firstCells inf.size (min str.length len) (.string ⟨str.toArray⟩)).run P w = .ok ((str.take (min str.length len)).map fun b : UInt8 => Value.int .u8 b.toNat).toArray w := by
            simp only [Builtin.firstCells, Sem.run_pure]
            congr 1
            rw [mk_extract]
            apply Array.ext'
            simp
          have hvr := VRL_bytes (n := H.length) (m := m) (str.take (min str.length len))
          by_cases h0 : 0 < len
          · have := hadr hsl h0
            subst this
            obtain ⟨w', hw', R'⟩ := R.pokes (P := P) (i := off) (j := 0) hp (Ones_bytes _) hvr
            refine ⟨_, _, m, .int .i64 (min str.length len : Nat), w', hk, ?_, ⟨by rw [pokeAt_length hp]; exact Nat.le_refl _, fun _ _ => rfl⟩, R', by simp [VR]⟩
            have hmin : Nat.min str.length len = min str.length len := rfl
            simp only [Builtin.copy_, Sem.run_bind, run_underlying (elemOfSlice_some ht), Result.andThen_ok, Builtin.lenOf, mk_size, Sem.run_pure, run_size hi1, hmin, hfc, hw', goInt, List.getElem?_toArray, List.getElem?_cons_zero, List.getElem?_cons_succ]
            all_goals rfl
          · have h00 : len = 0 := by omega
            subst h00
            simp only [Nat.min_zero, List.take_zero] at hp hk hfc
            have hH : H' = H := by
              obtain ⟨k, ob', c0, rfl, g2, g3, g4, rfl⟩ := pokeAt_iff.1 hp
              simp only [cellsOfBytes, List.map_nil] at g4 ⊢
              rw [putAt_nil]
              have : ob'.withCells c0 = ob' := by cases ob' <;> first | (cases g3; rfl) | rfl
              rw [this]
              refine List.ext_getElem? fun l => ?_
              rw [List.getElem?_set]
              split
              · rename_i e; subst e
                split
                · exact g2.symm
                · rename_i h'; rw [List.getElem?_eq_none (by omega)]
              · rfl
            subst hH
            refine VOk.int (e := ((0 : Nat) : Int)) R hk ?_
            have hmin : Nat.min str.length 0 = 0 := Nat.min_zero _
            have hfc' : (Builtin.firstCells inf.size 0 (.string ⟨str.toArray⟩)).run P w = .ok #[] w := by simpa using hfc
            simp only [Builtin.copy_, Sem.run_bind, run_underlying (elemOfSlice_some ht), Result.andThen_ok, Builtin.lenOf, mk_size, Sem.run_pure, run_size hi1, hmin, hfc', storeCells, goInt, List.getElem?_toArray, List.getElem?_cons_zero, List.getElem?_cons_succ]
            all_goals rfl
        · exact hc.elim
      · rename_i hne
        cases v with
        | nils =>
          simp only [lenOf, Option.some.injEq] at hn; subst hn
          simp only [VR] at hv; rw [hv]
          refine VOk.int (e := 0) R hc ?_
          have hmin : Nat.min str.length 0 = 0 := Nat.min_zero _
          have hfc' : (Builtin.firstCells inf.size 0 (.string ⟨str.toArray⟩)).run P w = .ok #[] w := by
            simp [Builtin.firstCells, mk_extract]
          simp only [Builtin.copy_, Sem.run_bind, run_underlying (elemOfSlice_some ht), Result.andThen_ok, Builtin.lenOf, mk_size, Sem.run_pure, run_size hi1, hmin, hfc', goInt, List.getElem?_toArray, List.getElem?_cons_zero, List.getElem?_cons_succ]
          all_goals rfl
        | slice o off len es' cap => exact absurd rfl (hne _ _ _ _ _)
        | _ => simp [lenOf] at hn
    · exact hc.elim
  · rename_i hns
    obtain ⟨mm, hm, hd2⟩ := ob_iff.1 hc
    split at hd2
    · rename_i o off len es1 cap o2 off2 len2 es2 cap2
      split at hd2
      · rename_i hes; obtain ⟨rfl, rfl⟩ := hes
        simp only [lenOf, Option.some.injEq] at hn hm; subst hn; subst hm
        obtain ⟨cs, hcs, he⟩ := ob_iff.1 hd2
        obtain ⟨H', hp, hk⟩ := ob_iff.1 he
        simp only [VR] at hv hq
        obtain ⟨hok, a1, c1, hv, hsl⟩ := hv
        obtain ⟨hok2, a2, c2, hq, hsl2⟩ := hq
        rw [hv, hq]
        obtain ⟨h0, xs, h1, h2, h3⟩ := R.cellsAt hB hcs
        have hmin : Nat.min len2 len = min len2 len := rfl
        by_cases hz : 0 < min len2 len
        · have e1 := hadr hsl (by omega)
          have e2 := hadr hsl2 (by omega)
          subst e1; subst e2
          obtain ⟨w', hw', R'⟩ := R.pokes (P := P) (i := off) (j := 0) hp h0 h2
          refine ⟨_, _, m, .int .i64 (min len2 len : Nat), w', hk, ?_, ⟨by rw [pokeAt_length hp]; exact Nat.le_refl _, fun _ _ => rfl⟩, R', by simp [VR]⟩
          have hfc := run_firstCells_some (P := P) w es2 (min len2 len) (adr m o2 off2) len2 c2 xs h1 h3
          simp only [Builtin.copy_, Sem.run_bind, run_underlying (elemOfSlice_some ht), Result.andThen_ok, Builtin.lenOf, Sem.run_pure, run_size hi1, hi2, hmin, hfc, hw', goInt, List.getElem?_toArray, List.getElem?_cons_zero, List.getElem?_cons_succ]
          all_goals rfl
        · have h00 : min len2 len = 0 := by omega
          rw [h00] at hk hcs
          have hx0 : xs = [] := List.eq_nil_of_length_eq_zero (by rw [h1, h00]; omega)
          subst hx0
          have hcs0 : cs = [] := List.eq_nil_of_length_eq_zero (by rw [← VRL_len h2]; rfl)
          subst hcs0
          have hH : H' = H := by
            obtain ⟨k, ob', c0, rfl, g2, g3, g4, rfl⟩ := pokeAt_iff.1 hp
            rw [putAt_nil]
            have : ob'.withCells c0 = ob' := by cases ob' <;> first | (cases g3; rfl) | rfl
            rw [this]
            refine List.ext_getElem? fun l => ?_
            rw [List.getElem?_set]
            split
            · rename_i e; subst e
              split
              · exact g2.symm
              · rename_i h'; rw [List.getElem?_eq_none (by omega)]
            · rfl
          subst hH
          refine VOk.int (e := ((0 : Nat) : Int)) R hk ?_
          have hmin0 : Nat.min len2 len = 0 := h00
          have hfc := run_firstCells_some (P := P) w es2 0 a2 len2 c2 [] (by simp) (fun j v hv => by simp at hv)
          simp only [Builtin.copy_, Sem.run_bind, run_underlying (elemOfSlice_some ht), Result.andThen_ok, Builtin.lenOf, Sem.run_pure, run_size hi1, hi2, hmin0, hfc, storeCells, goInt, List.getElem?_toArray, List.getElem?_cons_zero, List.getElem?_cons_succ]
          all_goals rfl
      · exact hd2.elim
    · rename_i hne
      have hor : (v = .nils ∧ n = 0) ∨ (q = .nils ∧ mm = 0) := by
        cases v <;> simp only [lenOf, reduceCtorEq, Option.some.injEq] at hn
        case nils => exact .inl ⟨rfl, hn.symm⟩
        case slice =>
          cases q <;> simp only [lenOf, reduceCtorEq, Option.some.injEq] at hm
          case nils => exact .inr ⟨rfl, hm.symm⟩
          case slice => exact absurd rfl (hne _ _ _ _ _ _ _ _ _ _ rfl)
      refine VOk.int (e := 0) R hd2 ?_
      have hlen : ∀ {z : AV} {y : Value} {j : Nat}, VR H.length m z y → lenOf z = some j → (∃ p c, y = .slice p j c) := fun {z} {y} {j} hz hj => by
        cases z <;> simp only [lenOf, reduceCtorEq, Option.some.injEq] at hj
        case nils => subst hj; simp only [VR] at hz; exact ⟨_, _, hz⟩
        case slice => subst hj; simp only [VR] at hz; obtain ⟨_, _, _, hz, _⟩ := hz; exact ⟨_, _, hz⟩
      obtain ⟨p1, c1, e1⟩ := hlen hv hn
      obtain ⟨p2, c2, e2⟩ := hlen hq hm
      rw [e1, e2]
      have hmin : Nat.min mm n = 0 := by rcases hor with ⟨_, h⟩ | ⟨_, h⟩ <;> (subst h; simp)
      have hfc : (Builtin.firstCells inf.size 0 (.slice p2 mm c2)).run P w = .ok #[] w := by
        cases p2 <;> simp [Builtin.firstCells, loadCells, loadCellsFrom]
      cases p1 with
      | none =>
        simp only [Builtin.copy_, Sem.run_bind, run_underlying (elemOfSlice_some ht), Result.andThen_ok, Builtin.lenOf, Sem.run_pure, run_size hi1, hmin, hfc, goInt, List.getElem?_toArray, List.getElem?_cons_zero, List.getElem?_cons_succ]
        all_goals rfl
      | some p =>
        simp only [Builtin.copy_, Sem.run_bind, run_underlying (elemOfSlice_some ht), Result.andThen_ok, Builtin.lenOf, Sem.run_pure, run_size hi1, hmin, hfc, storeCells, goInt, List.getElem?_toArray, List.getElem?_cons_zero, List.getElem?_cons_succ]
        all_goals rfl

/-! ### Maps whose keys are places -/
theorem ptrKey_of {kt : TypeId} (h : ptrKey P kt = true) : ∃ e n b, P.underlying kt = some (.pointer e) ∧ infoOf P e = some (n, b) ∧ n ≠ 0 := by
  unfold ptrKey at h
  split at h
  · rename_i e he
    split at h
    · rename_i n b hi
      exact ⟨e, n, b, he, hi, by simpa using h⟩
    · cases h
  · cases h
theorem ptrEq_run (R : Rel W0 m H w) {t e : TypeId} (ht : P.underlying t = some (.pointer e)) {n b : Nat} (hi : infoOf P e = some (n, b)) (hn : n ≠ 0) {v u : AV} {x y : Value} (hv : VR H.length m v x) (hu : VR H.length m u y) {r : Bool} (hr : ptrEq H v u = some r) :
    (Op.equal t x y).run P w = .ok r w ∧ (∃ p, x = .pointer p) ∧ (∃ p, y = .pointer p) ∧ (r = true → x = y ∧ v = u) := by
  obtain ⟨inf, hi1, hi2, _⟩ := infoOf_some hi
  unfold ptrEq at hr
  split at hr
  · rename_i q
    simp only [VR] at hv
    cases q with
    | none => simp only [VR] at hu; cases hr; subst hv; subst hu; exact ⟨equal_nilL 9999 ht _, ⟨_, rfl⟩, ⟨_, rfl⟩, fun _ => ⟨rfl, rfl⟩⟩
    | some q => simp only [VR] at hu; cases hr; obtain ⟨_, rfl⟩ := hu; subst hv; exact ⟨equal_nilL 9999 ht _, ⟨_, rfl⟩, ⟨_, rfl⟩, fun h => by cases h⟩
  · simp only [VR] at hv hu
    cases hr
    obtain ⟨_, rfl⟩ := hv
    subst hu
    exact ⟨equal_nilR 9999 ht _, ⟨_, rfl⟩, ⟨_, rfl⟩, fun h => by cases h⟩
  · rename_i k i l j
    split at hr
    · rename_i c c' hk hl
      cases hr
      simp only [VR] at hv hu
      obtain ⟨_, rfl⟩ := hv
      obtain ⟨_, rfl⟩ := hu
      refine ⟨?_, ⟨_, rfl⟩, ⟨_, rfl⟩, fun h => ?_⟩
      · have := equal_ptr (P := P) (w := w) 9999 ht hi1 (by omega) (adr m (.new k) i) (adr m (.new l) j)
        exact this.trans (same_var R hk hl i j)
      · simp only [Bool.and_eq_true, beq_iff_eq] at h
        obtain ⟨rfl, rfl⟩ := h
        exact ⟨rfl, rfl⟩
    · cases hr
  · cases hr
/-- What was found, in both worlds. -/
def PlR (m : Plcs) (H : Heap) (v : AV) (es : List (AV × AV × Nat)) (i : Nat) : Option (Nat × AV) → Option (Nat × Value) → Prop
  | none, none => True
  | some p, some q => p.1 = q.1 ∧ VR H.length m p.2 q.2 ∧ i ≤ p.1 ∧ ∃ e : AV × Nat, es[p.1 - i]? = some (e.1, p.2, e.2) ∧ ptrEq H v e.1 = some true
  | _, _ => False
theorem find_asking (R : Rel W0 m H w) {t e : TypeId} (ht : P.underlying t = some (.pointer e)) {n b : Nat} (hi : infoOf P e = some (n, b)) (hn : n ≠ 0) {v : AV} {x : Value} (hv : VR H.length m v x) : ∀ (es : List (AV × AV × Nat)) (l : List MapEntry) (i : Nat) (r : Option (Nat × AV)), EntR H.length m es l → findP H v es i = some r →
    ∃ r', (Instr.findAsking t x l i).run P w = .ok r' w ∧ PlR m H v es i r r'
  | [], l, i, r, he, h => by
    simp only [EntR] at he; subst he
    simp only [findP] at h; cases h
    exact ⟨none, by simp [Instr.findAsking], trivial⟩
  | (k, u, b) :: es, l, i, r, he, h => by
    simp only [EntR] at he
    obtain ⟨e, l', rfl, hk, hu, hb, hr⟩ := he
    simp only [findP] at h
    cases hc : ptrEq H v k with
    | none => rw [hc] at h; cases h
    | some q =>
      rw [hc] at h
      have hs := (ptrEq_run R ht hi hn hv hk hc).1
      cases q with
      | true => simp only at h; cases h; exact ⟨some (i, e.val), by simp [Instr.findAsking, hs], rfl, hu, Nat.le_refl _, (k, b), by simp, hc⟩
      | false =>
        simp only at h
        obtain ⟨r', h1, h2⟩ := find_asking R ht hi hn hv es l' (i + 1) r hr h
        refine ⟨r', by simp [Instr.findAsking, hs, h1], ?_⟩
        cases r with
        | none => cases r' with
          | none => trivial
          | some _ => exact h2.elim
        | some p =>
          cases r' with
          | none => exact h2.elim
          | some p' =>
            obtain ⟨h3, h4, h5, e', h6, h7⟩ := h2
            refine ⟨h3, h4, by omega, e', ?_, h7⟩
            rw [show p.1 - i = (p.1 - (i + 1)) + 1 by omega]
            simpa using h6
theorem find_place (R : Rel W0 m H w) {t e : TypeId} (ht : P.underlying t = some (.pointer e)) {n b : Nat} (hi : infoOf P e = some (n, b)) (hn : n ≠ 0) {v : AV} {x : Value} (hv : VR H.length m v x) {es : List (AV × AV × Nat)} {l : List MapEntry} {r : Option (Nat × AV)} (hl : EntR H.length m es l) (h : findP H v es 0 = some r) :
    ∃ r', (Instr.findKey t x l).run P w = .ok r' w ∧ PlR m H v es 0 r r' := by
  cases l with
  | nil =>
    cases es with
    | nil =>
      simp only [findP] at h; cases h
      exact ⟨none, by simp [Instr.findKey, run_underlying ht, Instr.findNow], trivial⟩
    | cons p r =>
      obtain ⟨k, u, b⟩ := p
      simp only [EntR] at hl
      obtain ⟨e, l', h1, _⟩ := hl
      cases h1
  | cons z l' =>
    obtain ⟨r', h1, h2⟩ := find_asking (P := P) R ht hi hn hv es (z :: l') 0 r hl h
    refine ⟨r', ?_, h2⟩
    have : Instr.findNow (.pointer e) x (z :: l') 0 = none := by simp [Instr.findNow, Instr.sameNow]
    simp [Instr.findKey, run_underlying ht, this, h1]
theorem run_checkP {n : Nat} (b : Bool) {t e : TypeId} (ht : P.underlying t = some (.pointer e)) (x : Value) : (Instr.checkKey b (n + 1) t x).run P w = .ok () w := by
  cases x <;> simp [Instr.checkKey, run_underlying ht]
theorem ok_lookupP (E : EnvR H.length m env a) (R : Rel W0 m H w) {t kt vt : TypeId} {vT : Ty} (ht : P.underlying t = some (.map kt vt)) (hkt : ptrKey P kt = true) {z : AV} (hz : zeroVal P vt = some z) {x y : Operand} {x' y' : Opd} (hx : opd x = some x') (hy : opd y = some y') {ok : Bool}
    (h : opK env x' fun v => ob (entriesOf H v) fun es => opK env y' fun k => ob (findP H k es 0) fun r => tyK vT (lookVal r z) fun u => K (if ok then .tuple [u, .bool r.isSome] else u) H) :
    VOk P W0 m H w K (Instr.lookup t (a.eval x) (a.eval y) ok) := by
  obtain ⟨pe, n, b, hp, hi, hn⟩ := ptrKey_of hkt
  obtain ⟨v, ha, hv⟩ := opd_ok E hx h
  obtain ⟨es, hes, hb⟩ := ob_iff.1 ha
  obtain ⟨u, hc, hu⟩ := opd_ok E hy hb
  obtain ⟨r, hr, hd⟩ := ob_iff.1 hc
  have hk := (tyK_imp hd).2
  obtain ⟨zv, hzv, hzr⟩ := zeroVal_some (n := H.length) (m := m) hz
  have fin : ∀ (l : List MapEntry), EntR H.length m es l → ∃ r' q, (Instr.findKey kt (a.eval y) l).run P w = .ok r' w ∧ VR H.length m (if ok then .tuple [lookVal r z, .bool r.isSome] else lookVal r z) q ∧
      q = (if ok then .tuple #[(r'.map (·.2)).getD zv, .bool r'.isSome] else (r'.map (·.2)).getD zv) := fun l hl => by
    obtain ⟨r', h1, h2⟩ := find_place R hp hi hn hu hl hr
    refine ⟨r', _, h1, ?_, rfl⟩
    have key : VR H.length m (lookVal r z) ((r'.map (·.2)).getD zv) ∧ r.isSome = r'.isSome := by
      cases r with
      | none =>
        cases r' with
        | some p => exact h2.elim
        | none => exact ⟨hzr, rfl⟩
      | some p =>
        cases r' with
        | none => exact h2.elim
        | some p' => exact ⟨h2.2.1, rfl⟩
    cases ok
    · exact key.1
    · simp only [VR, if_true, VRL]
      exact ⟨_, rfl, _, _, rfl, key.1, _, _, rfl, by rw [key.2], rfl⟩
  rcases entriesOf_some R hv hes with ⟨hxv, rfl⟩ | ⟨rr, l, clock, hxv, hl, hR⟩
  · rw [hxv]
    obtain ⟨r', q, h1, h2, h3⟩ := fin [] (by simp [EntR])
    refine .same R hk ?_ h2
    rw [h3]
    cases r' <;> simp [Instr.lookup, run_underlying ht, run_checkP (n := 9999) _ hp, h1, hzv]
  · rw [hxv]
    obtain ⟨r', q, h1, h2, h3⟩ := fin l.toList hR
    refine .same R hk ?_ h2
    rw [h3]
    cases r' <;> simp [Instr.lookup, run_underlying ht, run_getObj_map hl, run_checkP (n := 9999) _ hp, h1, hzv]
theorem ok_mapSetP (E : EnvR H.length m env a) (R : Rel W0 m H w) {t kt vt : TypeId} (ht : P.underlying t = some (.map kt vt)) (hkt : ptrKey P kt = true) {x y v : Operand} {x' y' v' : Opd} (hx : opd x = some x') (hy : opd y = some y') (hv' : opd v = some v')
    (h : opK env x' fun w => opK env y' fun k => opK env v' fun u => match w with
    | .map (some (.new i)) => match H[i]? with
      | some (.map es clock) => ob (findP H k es 0) fun r => match r with
        | some (j, _) => K .dead (H.set i (.map (es.modify j fun e => (k, u, e.2.2)) clock))
        | none => K .dead (H.set i (.map (es ++ [(k, u, clock)]) (clock + 1)))
      | _ => False
    | _ => False) : UOk P W0 m H w K (Instr.mapUpdate t (a.eval x) (a.eval y) (a.eval v)) := by
  obtain ⟨pe, n, b, hp, hi, hn⟩ := ptrKey_of hkt
  obtain ⟨q, ha, hq⟩ := opd_ok E hx h
  obtain ⟨k, hb, hk⟩ := opd_ok E hy ha
  obtain ⟨u, hc, hu⟩ := opd_ok E hv' hb
  split at hc
  · rename_i i
    split at hc
    · rename_i es clock hi'
      obtain ⟨r, hr, hd⟩ := ob_iff.1 hc
      simp only [VR] at hq
      obtain ⟨_, l, h1, h2⟩ := R.objs i _ hi'
      obtain ⟨r', hfk, h4⟩ := find_place R hp hi hn hk h2 hr
      rw [hq.2]
      cases r with
      | none =>
        cases r' with
        | some p => exact h4.elim
        | none =>
          refine ⟨_, m, _, hd, ?_, ⟨by simp, fun _ _ => rfl⟩, R.setMap hi' _ _ (l.push { key := a.eval y, val := a.eval v, born := clock }) ?_⟩
          · simp only [Instr.mapUpdate, Sem.run_bind, run_underlying ht, Result.andThen_ok, Id.blk, run_getObj_map h1, run_checkP (n := 9999) _ hp, hfk, run_setObj_map h1]
          · rw [Array.toList_push]
            exact EntR_append h2 (by simp only [EntR]; exact ⟨_, _, rfl, hk, hu, rfl, rfl⟩)
      | some p =>
        cases r' with
        | none => exact h4.elim
        | some p' =>
          obtain ⟨j, u0⟩ := p
          obtain ⟨j', y0⟩ := p'
          obtain ⟨rfl, _, _, e, he, hce⟩ := h4
          simp only [Nat.sub_zero] at he
          obtain ⟨x0, hx0, hkx, _, _⟩ := EntR_get h2 he
          obtain ⟨_, ⟨p1, hp1⟩, ⟨p2, hp2⟩, hsame⟩ := ptrEq_run R hp hi hn hk hkx hce
          have hst : (Instr.keyThatStays x0.key (a.eval y)).run P w = .ok (a.eval y) w := by
            rw [← (hsame rfl).1, hp1]; simp [Instr.keyThatStays, Instr.sameBits]
          rw [Array.getElem?_toList] at hx0
          refine ⟨_, m, _, hd, ?_, ⟨by simp, fun _ _ => rfl⟩, R.setMap hi' _ _ (l.modify j fun e => { e with key := a.eval y, val := a.eval v }) ?_⟩
          · simp only [Instr.mapUpdate, Sem.run_bind, run_underlying ht, Result.andThen_ok, Id.blk, run_getObj_map h1, run_checkP (n := 9999) _ hp, hfk, hx0, Option.map_some, Option.getD_some, hst, run_setObj_map h1]
          · rw [Array.toList_modify]
            exact EntR_modify hk hu j h2
    · exact hc.elim
  · exact hc.elim

end

end Go.Am
