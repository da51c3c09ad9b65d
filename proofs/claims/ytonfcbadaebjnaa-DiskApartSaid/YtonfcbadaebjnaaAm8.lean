/- What the translated operations do in the model, continued: slicing, rows that are made, rows that grow. -/
import Derived.Test.YtonfcbadaebjnaaAm7
namespace Go.Am
open Go Go.RowKit

section
variable {P : Program} {B : Base} {W0 : Bw} {m : Plcs} {H : Heap} {w : World} {K : AV → Heap → Prop} {env : Env} {a : Act}

/-! ### Slicing -/
/-- A bound in the model: left out, or a number. -/
def Bd (o : Option Value) (d i : Int) : Prop := o = none ∧ i = d ∨ ∃ k, o = some (.int k i)

theorem optIdx_ok (E : EnvR H.length m env a) {x : Option Operand} {x' : Option Opd} (hx : optIdx x = some x') {d : Int} {K : Int → Prop} (h : optK env d x' K) : ∃ i, K i ∧ Bd (x.map a.eval) d i := by
  cases x with
  | none => simp only [optIdx] at hx; cases hx; exact ⟨d, h, .inl ⟨rfl, rfl⟩⟩
  | some y =>
    simp only [optIdx] at hx
    split at hx
    · rename_i z hz
      cases hx
      simp only [optK] at h
      obtain ⟨v, ha, hv⟩ := opd_ok E hz h
      obtain ⟨k, i, rfl, hb⟩ := pAny_iff.1 ha
      simp only [VR] at hv
      exact ⟨i, hb, .inr ⟨k, by simp [hv]⟩⟩
    · cases hx

theorem run_bound {k : IntKind} {i : Int} {y : Nat} (code : BoundsCode) (h0 : 0 ≤ i) (h1 : i ≤ y) : (Instr.sliceBound (.int k i) y code).run P w = .ok i.toNat w := by
  simp [Instr.sliceBound, asIntOf, h0, h1]

theorem run_bounds {s : Bool} {len cap : Nat} {lo hi : Option Value} {l h : Int} (hl : Bd lo 0 l) (hh : Bd hi len h) (h0 : 0 ≤ l) (h1 : l ≤ h) (h2 : h ≤ cap) :
    (Instr.sliceBounds s len cap lo hi none).run P w = .ok (l.toNat, h.toNat, cap) w := by
  have e2 : (h.toNat : Int) = h := Int.toNat_of_nonneg (by omega)
  rcases hl with ⟨rfl, rfl⟩ | ⟨k, rfl⟩ <;> rcases hh with ⟨rfl, rfl⟩ | ⟨k', rfl⟩
  · simp [Instr.sliceBounds]
  · simp [Instr.sliceBounds, run_bound _ (by omega : (0 : Int) ≤ h) h2]
  · have : l ≤ ((len : Nat) : Int) := h1
    simp [Instr.sliceBounds, run_bound _ h0 this]
  · simp [Instr.sliceBounds, run_bound _ (by omega : (0 : Int) ≤ h) h2, run_bound (y := h.toNat) _ h0 (by omega)]

theorem run_bounds3 {s : Bool} {len cap : Nat} {lo : Option Value} {l h c : Int} {k1 k2 : IntKind} (hl : Bd lo 0 l) (h0 : 0 ≤ l) (h1 : l ≤ h) (h2 : h ≤ c) (h3 : c ≤ cap) :
    (Instr.sliceBounds s len cap lo (some (.int k1 h)) (some (.int k2 c))).run P w = .ok (l.toNat, h.toNat, c.toNat) w := by
  have b1 : (Instr.sliceBound (.int k1 h) c.toNat .slice3B).run P w = .ok h.toNat w := run_bound _ (by omega) (by omega)
  rcases hl with ⟨rfl, rfl⟩ | ⟨k, rfl⟩
  · simp [Instr.sliceBounds, run_bound _ (by omega : (0 : Int) ≤ c) h3, b1]
  · simp [Instr.sliceBounds, run_bound _ (by omega : (0 : Int) ≤ c) h3, b1, run_bound (y := h.toNat) _ h0 (by omega)]

theorem ok_sliceS (E : EnvR H.length m env a) (R : Rel W0 m H w) {t : TypeId} (ht : P.underlying t = some .string) {x : Operand} {x' : Opd} {lo hi : Option Operand} {lo' hi' : Option Opd} (hx : opd x = some x') (hlo : optIdx lo = some lo') (hhi : optIdx hi = some hi')
    (h : opK env x' fun v => pStr v fun s => optK env 0 lo' fun a => optK env s.length hi' fun b =>
      if 0 ≤ a ∧ a ≤ b ∧ b ≤ s.length then K (.str ((s.drop a.toNat).take (b.toNat - a.toNat))) H else False) :
    VOk P W0 m H w K (Instr.sliceAt t (a.eval x) (lo.map a.eval) (hi.map a.eval) none) := by
  obtain ⟨v, ha, hv⟩ := opd_ok E hx h
  obtain ⟨s, rfl, hb⟩ := pStr_iff.1 ha
  obtain ⟨l, hc, hl⟩ := optIdx_ok E hlo hb
  obtain ⟨u, hd, hu⟩ := optIdx_ok E hhi hc
  simp only [VR] at hv; rw [hv]
  split at hd
  · rename_i hcond
    refine VOk.str R hd ?_
    have hbd := run_bounds (P := P) (w := w) (s := false) (cap := s.length) hl hu hcond.1 hcond.2.1 hcond.2.2
    simp only [Instr.sliceAt, Sem.run_bind, run_underlying ht, Result.andThen_ok, Instr.slice, Option.isSome_none, Bool.false_eq_true, if_false, mk_size, hbd, Sem.run_pure, mk_extract]
  · exact hd.elim

theorem SlR_sub {o : Id} {off len es c : Nat} {cap : Option Nat} {a' : Addr} (h : SlR m o off len es cap a' c) {l hh : Nat} (h1 : l ≤ hh) (h2 : hh ≤ len) :
    SlR m o (match cap with | none => off + l * es | some c' => if c' = l then off else off + l * es) (hh - l) es (cap.map (· - l)) (if c = l then a' else a'.add (l * es)) (c - l) := by
  obtain ⟨hle, h⟩ := h
  refine ⟨by omega, ?_⟩
  cases cap with
  | some c' =>
    obtain ⟨rfl, h⟩ := h
    refine ⟨rfl, fun hp => ?_⟩
    have hp' : 0 < c - l := hp
    have hne : ¬ (c = l) := by omega
    simp only [hne, if_false]
    rw [h (by omega), adr_add]
  | none =>
    obtain ⟨g1, g2, g3, g4, k, rfl, g5⟩ := h
    simp only [Option.map_none]
    by_cases e1 : c = l
    · rw [if_pos e1]
      refine ⟨g1, g2, g3, fun hp => by omega, k, rfl, ?_⟩
      have : c - l = 0 := by omega
      rw [this]
      have : 0 ≤ c * es := Nat.zero_le _
      omega
    · rw [if_neg e1]
      have hadd : a'.add (l * es) = ⟨a'.block, a'.off + l * es, none⟩ := by
        unfold Addr.add
        split
        · rename_i h0
          cases a'; simp only at g2 ⊢; rw [h0, g2]; rfl
        · rfl
      rw [hadd]
      refine ⟨g1, rfl, by simp only; omega, fun hp => ?_, k, rfl, ?_⟩
      · have := g4 (by omega)
        simp only; omega
      · simp only
        have : l * es + (c - l) * es = c * es := by rw [← Nat.add_mul]; congr 1; omega
        omega

theorem ok_sliceL2 (E : EnvR H.length m env a) (R : Rel W0 m H w) {t e : TypeId} {es b : Nat} (ht : P.underlying t = some (.slice e)) (hi' : infoOf P e = some (es, b)) {x : Operand} {x' : Opd} {lo hi : Option Operand} {lo' hi'' : Option Opd} (hx : opd x = some x') (hlo : optIdx lo = some lo') (hhi : optIdx hi = some hi'')
    (h : opK env x' fun v => ob (lenOf v) fun n => optK env 0 lo' fun a => optK env n hi'' fun b => ob (sliceOf es v a b) fun r => K r H) :
    VOk P W0 m H w K (Instr.sliceAt t (a.eval x) (lo.map a.eval) (hi.map a.eval) none) := by
  obtain ⟨v, ha, hv⟩ := opd_ok E hx h
  obtain ⟨n, hn, hb⟩ := ob_iff.1 ha
  obtain ⟨l, hc, hl⟩ := optIdx_ok E hlo hb
  obtain ⟨u, hd, hu⟩ := optIdx_ok E hhi hc
  obtain ⟨r, hr, hk⟩ := ob_iff.1 hd
  obtain ⟨inf, hi1, hi2, _⟩ := infoOf_some hi'
  unfold sliceOf at hr
  split at hr
  · simp only [VR] at hv; rw [hv]
    split at hr
    · rename_i hz
      cases hr
      simp only [lenOf, Option.some.injEq] at hn; subst hn
      refine VOk.same (x := .slice none 0 0) R hk ?_ (by simp only [VR])
      have hbd := run_bounds (P := P) (w := w) (s := true) (cap := 0) hl hu (by omega) (by omega) (by omega)
      simp only [Instr.sliceAt, Sem.run_bind, run_underlying ht, Result.andThen_ok, Instr.slice, hbd, run_size hi1, Sem.run_pure, hz.1, hz.2]
      rfl
    · cases hr
  · rename_i o off len es' cap
    split at hr
    · rename_i hcond
      obtain ⟨rfl, h0, h1, h2⟩ := hcond
      simp only [lenOf, Option.some.injEq] at hn; subst hn
      simp only [VR] at hv
      obtain ⟨hok, a', c, hv, hsl⟩ := hv
      rw [hv]
      have hle := hsl.1
      have hbd := run_bounds (P := P) (w := w) (s := true) (cap := c) hl hu h0 h1 (by omega)
      have hsub := SlR_sub hsl (l := l.toNat) (hh := u.toNat) (by omega) (by omega)
      have hrun : (Instr.sliceAt t (.slice (some a') len c) (lo.map a.eval) (hi.map a.eval) none).run P w = .ok (.slice (some (if c = l.toNat then a' else a'.add (l.toNat * es'))) (u.toNat - l.toNat) (c - l.toNat)) w := by
        simp only [Instr.sliceAt, Sem.run_bind, run_underlying ht, Result.andThen_ok, Instr.slice, hbd, run_size hi1, Sem.run_pure, hi2]
        congr 2
        split <;> rfl
      cases cap with
      | none => cases hr; exact .same R hk hrun (by simp only [VR]; exact ⟨hok, _, _, rfl, hsub⟩)
      | some c' => cases hr; exact .same R hk hrun (by simp only [VR]; exact ⟨hok, _, _, rfl, hsub⟩)
    · cases hr
  · cases hr

theorem ok_sliceL3 (E : EnvR H.length m env a) (R : Rel W0 m H w) {t e : TypeId} {es b : Nat} (ht : P.underlying t = some (.slice e)) (hi' : infoOf P e = some (es, b)) {x mx hi : Operand} {x' mx' hi'' : Opd} {lo : Option Operand} {lo' : Option Opd} (hx : opd x = some x') (hlo : optIdx lo = some lo') (hhi : opd hi = some hi'') (hmx : opd mx = some mx')
    (h : opK env x' fun v => ob (lenOf v) fun n => optK env 0 lo' fun a => optK env n (some hi'') fun b => opK env mx' fun u => pAny u fun c => ob (sliceOf3 es v a b c) fun r => K r H) :
    VOk P W0 m H w K (Instr.sliceAt t (a.eval x) (lo.map a.eval) (some (a.eval hi)) (some (a.eval mx))) := by
  obtain ⟨v, ha, hv⟩ := opd_ok E hx h
  obtain ⟨n, hn, hb⟩ := ob_iff.1 ha
  obtain ⟨l, hc, hl⟩ := optIdx_ok E hlo hb
  simp only [optK] at hc
  obtain ⟨v2, hd, hv2⟩ := opd_ok E hhi hc
  obtain ⟨k2, u, rfl, he⟩ := pAny_iff.1 hd
  obtain ⟨v3, hf, hv3⟩ := opd_ok E hmx he
  obtain ⟨k3, c, rfl, hg⟩ := pAny_iff.1 hf
  obtain ⟨r, hr, hk⟩ := ob_iff.1 hg
  obtain ⟨inf, hi1, hi2, _⟩ := infoOf_some hi'
  simp only [VR] at hv2 hv3; rw [hv2, hv3]
  unfold sliceOf3 at hr
  split at hr
  · simp only [VR] at hv; rw [hv]
    split at hr
    · rename_i hz
      cases hr
      obtain ⟨rfl, rfl, rfl⟩ := hz
      refine VOk.same (x := .slice none 0 0) R hk ?_ (by simp only [VR])
      have hbd := run_bounds3 (P := P) (w := w) (s := true) (len := 0) (cap := 0) (h := 0) (c := 0) (k1 := k2) (k2 := k3) hl (by omega) (by omega) (by omega) (by omega)
      simp only [Instr.sliceAt, Sem.run_bind, run_underlying ht, Result.andThen_ok, Instr.slice, hbd, run_size hi1, Sem.run_pure]
      rfl
    · cases hr
  · rename_i o off len es' cap
    split at hr
    · rename_i hcond
      obtain ⟨rfl, h0, h1, h2, h3⟩ := hcond
      cases hr
      simp only [VR] at hv
      obtain ⟨hok, a', cc, hv, hsl⟩ := hv
      rw [hv]
      have hle := hsl.1
      have hbd := run_bounds3 (P := P) (w := w) (s := true) (len := len) (cap := cc) (k1 := k2) (k2 := k3) hl h0 h1 h2 (by omega)
      refine VOk.same (x := .slice (some (if c.toNat = l.toNat then a' else a'.add (l.toNat * es'))) (u.toNat - l.toNat) (c.toNat - l.toNat)) R hk ?_ ?_
      · simp only [Instr.sliceAt, Sem.run_bind, run_underlying ht, Result.andThen_ok, Instr.slice, hbd, run_size hi1, Sem.run_pure, hi2]
        congr 2
        split <;> rfl
      · simp only [VR]
        refine ⟨hok, _, _, rfl, by omega, rfl, fun hp => ?_⟩
        have e1 : ¬ (c.toNat = l.toNat) := by omega
        have e2 : ¬ (c = l) := by omega
        rw [if_neg e1, if_neg e2]
        have hadr : a' = adr m o off := by
          cases cap with
          | some c'' => exact hsl.2.2 (by have := hsl.2.1; omega)
          | none =>
            obtain ⟨_, g1, g2, _, g3, _⟩ := hsl
            have := g3 (by omega)
            cases a'
            simp only at g1 g2 this
            simp [adr, g1, g2, this]
        rw [hadr, adr_add]
    · cases hr
  · cases hr

theorem ok_sliceA (E : EnvR H.length m env a) (R : Rel W0 m H w) {t e : TypeId} {n es b : Nat} (ht : P.underlying t = some (.array n e) ∨ ∃ p, P.underlying t = some (.pointer p) ∧ P.underlying p = some (.array n e)) (hi' : infoOf P e = some (es, b)) {x : Operand} {x' : Opd} {lo hi : Option Operand} {lo' hi'' : Option Opd} (hx : opd x = some x') (hlo : optIdx lo = some lo') (hhi : optIdx hi = some hi'')
    (h : opK env x' fun v => optK env 0 lo' fun a => optK env n hi'' fun b => match v with
    | .ptr (some (o, i)) => if 0 ≤ a ∧ a ≤ b ∧ b ≤ n then K (.slice o (if (n : Int) = a then i else i + a.toNat * es) (b.toNat - a.toNat) es (some (n - a.toNat))) H else False
    | _ => False) :
    VOk P W0 m H w K (Instr.sliceAt t (a.eval x) (lo.map a.eval) (hi.map a.eval) none) := by
  obtain ⟨v, ha, hv⟩ := opd_ok E hx h
  obtain ⟨l, hc, hl⟩ := optIdx_ok E hlo ha
  obtain ⟨u, hd, hu⟩ := optIdx_ok E hhi hc
  obtain ⟨inf, hi1, hi2, _⟩ := infoOf_some hi'
  split at hd
  · rename_i o i
    split at hd
    · rename_i hcond
      obtain ⟨h0, h1, h2⟩ := hcond
      obtain ⟨hok, hv⟩ := VR_ptr hv
      rw [hv]
      have hbd := run_bounds (P := P) (w := w) (s := false) (cap := n) hl hu h0 h1 h2
      refine VOk.same (x := .slice (some (if n = l.toNat then adr m o i else (adr m o i).add (l.toNat * es))) (u.toNat - l.toNat) (n - l.toNat)) R hd ?_ ?_
      · rcases ht with ht | ⟨p, ht, hp⟩
        · simp only [Instr.sliceAt, Sem.run_bind, run_underlying ht, Result.andThen_ok, Instr.sureAddr, hbd, run_size hi1, Sem.run_pure, hi2]
        · simp only [Instr.sliceAt, Sem.run_bind, run_underlying ht, Result.andThen_ok, Instr.slice, asAddr, run_underlying hp, hbd, run_size hi1, Sem.run_pure, hi2]
      · simp only [VR]
        refine ⟨hok, _, _, rfl, by omega, rfl, fun hp => ?_⟩
        have e1 : ¬ (n = l.toNat) := by omega
        have e2 : ¬ ((n : Int) = l) := by omega
        rw [if_neg e1, if_neg e2, adr_add]
    · exact hd.elim
  · exact hd.elim

/-! ### Made -/
theorem ok_makeSlice (E : EnvR H.length m env a) (R : Rel W0 m H w) {t e : TypeId} {es b : Nat} {z : List AV} (ht : elemOfSlice P t = some e) (hi : infoOf P e = some (es, b)) (hz : zeroOf P e = some z) (hzl : z.length = es) (hpos : 0 < es)
    {x y : Operand} {x' y' : Opd} (hx : opd x = some x') (hy : opd y = some y')
    (h : opK env x' fun v => pAny v fun p => opK env y' fun u => pAny u fun q =>
      if 0 ≤ p ∧ p ≤ q ∧ q * b ≤ maxBytes ∧ q ≤ maxInt then K (.slice (.new H.length) 0 p.toNat es (some q.toNat)) (H ++ [.arr (List.replicate q.toNat z).flatten]) else False) :
    VOk P W0 m H w K (Instr.makeSlice t (a.eval x) (a.eval y)) := by
  obtain ⟨v, ha, hv⟩ := opd_ok E hx h
  obtain ⟨k, p, rfl, hb⟩ := pAny_iff.1 ha
  obtain ⟨u, hc, hu⟩ := opd_ok E hy hb
  obtain ⟨k2, q, rfl, hd⟩ := pAny_iff.1 hc
  obtain ⟨inf, hi1, hi2, hi3⟩ := infoOf_some hi
  obtain ⟨zv, hzv, h2, h1⟩ := zeroOf_some (n := H.length) (m := m) hz
  have hzs : zv.cells.size = es := by rw [VRL_ones_len h2]; exact hzl
  simp only [VR] at hv hu; rw [hv, hu]
  split at hd
  · rename_i hcond
    obtain ⟨c0, c1, c2, c3⟩ := hcond
    unfold maxInt at c3
    unfold maxBytes at c2
    have wp : IntKind.i64.wrap p = p := by simp only [IntKind.wrap, IntKind.bits, IntKind.signed]; simp; omega
    have wq : IntKind.i64.wrap q = q := by simp only [IntKind.wrap, IntKind.bits, IntKind.signed]; simp; omega
    have hrow : VRL H.length m (List.replicate q.toNat z).flatten ((Array.range (q.toNat * es)).map fun i => zv.cells[i % zv.cells.size]!).toList := by
      have := zeros_list zv.cells q.toNat
      rw [hzs] at this ⊢
      rw [this]
      exact VRL_flat h2 _
    refine ok_arr R e (Ones_flat h1 _) hrow (by omega : p.toNat ≤ q.toNat) (.inl rfl) hd _ ?_
    have hq : (b : Int) * q ≤ 281474976710656 := by rw [Int.mul_comm]; omega
    have t1 : ¬ (q < 0) := by omega
    have t2 : ¬ (281474976710656 < (b : Int) * q) := by omega
    have t3 : ¬ (p < 0) := by omega
    have t4 : ¬ (q < p) := by omega
    simp only [Instr.makeSlice, Sem.run_bind, run_underlying (elemOfSlice_some ht), Result.andThen_ok, asInt, asIntOf, Sem.run_pure, typeInfo, run_program, hi1, hi3, wp, wq]
    simp [t1, t2, t3, t4, run_size hi1, hi2]
    by_cases h0 : q.toNat = 0 ∨ es = 0
    · have h00 : q.toNat = 0 := by omega
      have hq0 : q ≤ 0 := by omega
      have er : ∀ f : Nat → Value, (Array.range 0).map f = #[] := fun f => by simp
      simp [h00, hq0, newRow]
      rw [er, er]
    · have : ¬ (q ≤ 0 ∨ es = 0) := by omega
      have hne : ¬ (q.toNat * es = 0) := Nat.mul_ne_zero (by omega) (by omega)
      simp [this, hzv, newRow]
      intro h; exact absurd h hne
  · exact hd.elim

theorem ok_makeMap (R : Rel W0 m H w) {t : TypeId} (h : K (.map (some (.new H.length))) (H ++ [.map [] 0])) : VOk P W0 m H w K (Instr.makeMap t none) := by
  have R' := R.new (.map #[] 0) ⟨w.heap.size, 0, 0⟩ rfl (.map [] 0) (by
    simp only [ObjR, upd_same]
    exact ⟨R.below.fresh, #[], World.heap_alloc_new _ _, by simp [EntR]⟩)
  refine ⟨_, _, _, .map (some w.heap.size), _, h, ?_, Ext.upd m H _ _, R', ?_⟩
  · simp [Instr.makeMap]
  · simp only [VR, Id.ok, Id.blk, upd_same]; simp

/-! ### Growing -/
/-- What is put into cells of a block. -/
theorem storeCells_block (P : Program) (b p : Nat) : ∀ (xs : List Value) (j : Nat) (w : World) (c : Array Value) (e : TypeId) (f : Nat × Nat), w.heap[b]? = some (.cells c e f) → frOk false f c.size → p + j + xs.length ≤ c.size → (∀ x, x ∈ xs → x.oneCell' = true) →
    ∃ w' c', (storeCells ⟨b, p, none⟩ xs j).run P w = .ok () w' ∧ w'.heap[b]? = some (.cells c' e f) ∧ c'.size = c.size ∧ (∀ i y, xs[i]? = some y → c'[p + j + i]? = some y) ∧
      (∀ k, k ≠ b → w'.heap[k]? = w.heap[k]?) ∧ w'.heap.size = w.heap.size ∧ w'.os = w.os ∧ w'.tape = w.tape ∧ w'.output = w.output ∧ (∀ i, i < p + j → c'[i]? = c[i]?)
  | [], j, w, c, e, f, h, _, _, _ => ⟨w, c, by simp [storeCells], h, rfl, fun i y hy => by simp at hy, fun _ _ => rfl, rfl, rfl, rfl, rfl, fun _ _ => rfl⟩
  | x :: xs, j, w, c, e, f, h, hf, hle, h1 => by
    simp only [List.length_cons] at hle
    have hadd : (⟨b, p, none⟩ : Addr).add j = ⟨b, p + j, none⟩ := by
      unfold Addr.add; split
      · rename_i h0; subst h0; rfl
      · rfl
    have hcell : w.cell? ⟨b, p + j, none⟩ = some (c[p + j]'(by omega)) := by
      have : p + j < c.size := by omega
      simp [World.cell?, h, this]
    have hfz : w.frozen? ⟨b, p + j, none⟩ = false := by
      simp only [World.frozen?, h]
      rcases hf with rfl | ⟨_, rfl⟩
      · simp
      · simp; omega
    have hst : (store ⟨b, p + j, none⟩ x).run P w = .ok () (w.setCell ⟨b, p + j, none⟩ x) := by
      rw [run_store P w _ x .plain (h1 x (by simp)), hcell]; simp [hfz]
    have hset := World.heap_setCell_same (w := w) (p := ⟨b, p + j, none⟩) h rfl x
    simp only at hset
    obtain ⟨w', c', g1, g2, g3, g4, g5, g6, g7, g8, g9, g10⟩ := storeCells_block P b p xs (j + 1) (w.setCell ⟨b, p + j, none⟩ x) (c.setIfInBounds (p + j) x) e f hset (by simpa using hf) (by simp; omega) (fun y hy => h1 y (by simp [hy]))
    refine ⟨w', c', ?_, g2, by simpa using g3, fun i y hy => ?_, fun k hk => (g5 k hk).trans (Below.heap_setCell _ _ _ _ hk), by simpa using g6, g7, g8, g9, fun i hi => ?_⟩
    · simp only [storeCells, Sem.run_bind, hadd, hst, Result.andThen_ok]; exact g1
    · cases i with
      | zero =>
        simp at hy; subst hy
        rw [Nat.add_zero, g10 _ (by omega), Array.getElem?_setIfInBounds, if_pos rfl, if_pos (by omega)]
      | succ i =>
        simp at hy
        have := g4 i y hy
        rw [show p + j + (i + 1) = p + (j + 1) + i by omega]; exact this
    · rw [g10 i (by omega), Array.getElem?_setIfInBounds_ne (by omega)]

/-- What is appended, in the model: a text, or a slice. -/
structure Src (P : Program) (w : World) (u : TypeId) (x : Value) (es k : Nat) (xs : List Value) : Prop where
  notInt : (∃ e, P.underlying u = some (.slice e)) ∨ P.underlying u = some .string
  len : ∀ w', (Builtin.lenOf x).run P w' = .ok k w'
  cells : (Builtin.firstCells es k x).run P w = .ok xs.toArray w
  cells' : (Builtin.firstCells es k x).run P w.drew = .ok xs.toArray w.drew

theorem run_append_in {t u ty e : TypeId} {i : TypeInfo} (ht : P.underlying t = some (.slice e)) (hi : P.info? e = some i) {x : Value} {k : Nat} {xs : List Value} (S : Src P w u x i.size k xs) (b : Option Addr) (n c : Nat) (hfit : n + k ≤ c) :
    (Builtin.append_ #[t, u] ty #[.slice b n c, x]).run P w = match b with
      | some a => ((storeCells (a.add (n * i.size)) xs).run P w).andThen fun _ w' => .ok (.slice b (n + k) c) w'
      | none => .ok (.slice b (n + k) c) w := by
  rcases S.notInt with ⟨e', hd⟩ | hd <;> cases b <;> simp [Builtin.append_, run_underlying ht, run_size hi, run_underlying hd, S.len, hfit, S.cells]

theorem run_append_out {t u ty e : TypeId} {i : TypeInfo} {z : Value} (ht : P.underlying t = some (.slice e)) (hi : P.info? e = some i) (hz : i.zero = some z) {x : Value} {k : Nat} {xs : List Value} (S : Src P w u x i.size k xs) (b : Option Addr) (n c : Nat) (hfit : c < n + k)
    (olds : List Value) (hold : (Builtin.firstCells i.size n (.slice b n c)).run P w.drew = .ok olds.toArray w.drew) (h63 : n + k ≤ maxInt) (h48 : (n + k) * i.bytes ≤ maxBytes) (hb : 0 < i.bytes) :
    (Builtin.append_ #[t, u] ty #[.slice b n c, x]).run P w = .ok (.slice (some ⟨w.heap.size, 0, none⟩) (n + k) (grownCap w (n + k) c e))
      (w.drew.alloc (.cells (olds.toArray ++ xs.toArray ++ Builtin.zeroCells z.cells (grownCap w (n + k) c e - (n + k))) e)) := by
  have hn : ¬ (n + k ≤ c) := by omega
  have hfits := growslice_fits (need := n + k) (old := c) (bytes := i.bytes) hfit h48
  have h2 : ¬ (281474976710656 < Builtin.nextslicecap (n + k) c * i.bytes) := by omega
  unfold maxInt at h63
  have h3 : ¬ ((9223372036854775807 : Int) < (n : Int) + (k : Int)) := by omega
  have hz' : ∀ w', (zeroValue e).run P w' = .ok z w' := fun w' => by simp [zeroValue, typeInfo, hi, hz]
  have hq : (Question.appendCap (n + k) c e).forced = false := rfl
  rcases S.notInt with ⟨e', hd⟩ | hd
  · simp [Builtin.append_, run_underlying ht, run_size hi, run_underlying hd, S.len, hn, typeInfo, hi, h2, h3, hold, S.cells', hz', Question.forced, newRow, grownCap]
    simp only [← Array.append_assoc, List.append_toArray, grownCap]
  · simp [Builtin.append_, run_underlying ht, run_size hi, run_underlying hd, S.len, hn, typeInfo, hi, h2, h3, hold, S.cells', hz', Question.forced, newRow, grownCap]
    simp only [← Array.append_assoc, List.append_toArray, grownCap]

end

end Go.Am
