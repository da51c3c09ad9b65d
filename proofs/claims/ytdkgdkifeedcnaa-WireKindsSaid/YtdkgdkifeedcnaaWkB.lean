/- Pieces of slices; memory of which something is told; for those who walk readers. -/
import Derived.Test.YtdkgdkifeedcnaaWrB
import Derived.Test.YtdkgdkifeedcnaaAmE
namespace Go.Am
open Go

def capOK (v : AV) : Prop := ∀ o off len es c, v = .slice o off len es (some c) → len ≤ c
def updC (C : Nat → Option AObj) (p : Nat) (o : AObj) : Nat → Option AObj := fun q => if q = p then some o else C q
theorem updC_at {C : Nat → Option AObj} {p : Nat} {o : AObj} : updC C p o p = some o := if_pos rfl
theorem updC_ne {C : Nat → Option AObj} {p q : Nat} {o : AObj} (h : q ≠ p) : updC C p o q = C q := if_neg h

section
variable {B : Base} {n : Nat} {H G : Heap} {Q : AV → Heap → Prop}

theorem putAt_set {l : List AV} {i : Nat} {v : AV} (h : i < l.length) : putAt l i [v] = l.set i v := by
  rw [List.set_eq_take_append_cons_drop, if_pos h]
  simp [putAt]

theorem set_preL {L : List AObj} {i : Nat} {o : AObj} (hi : H.length ≤ i) : ∃ L', (H ++ L).set i o = H ++ L' :=
  ⟨L.set (i - H.length) o, by rw [List.set_append_right _ _ hi]⟩
/-- A piece of a slice. -/
theorem cut_of {es a b : Nat} {v : AV} {rows : List (List AV)} (h : Sl B H es v rows) (hc : capOK v) (hab : a ≤ b) (hb : b ≤ rows.length) : ∃ v', sliceOf es v (a : Int) (b : Int) = some v' ∧ Sl B H es v' ((rows.drop a).take (b - a)) ∧ capOK v' := by
  obtain ⟨h0, ⟨rfl, rfl⟩ | ⟨o, off, cap, rfl, hcl⟩⟩ := h
  · have e1 : b = 0 := by simpa using hb
    subst e1
    have e2 : a = 0 := by omega
    subst e2
    exact ⟨.nils, rfl, ⟨fun r hr => by simp at hr, .inl ⟨rfl, rfl⟩⟩, fun o off len es c e => by cases e⟩
  · have hlen : ((rows.drop a).take (b - a)).length = b - a := by rw [List.length_take, List.length_drop]; omega
    have h0' : ∀ r, r ∈ (rows.drop a).take (b - a) → r.length = es := fun r hr => h0 r (List.mem_of_mem_drop (List.mem_of_mem_take hr))
    have hfl : ∀ (k : Nat) (rs : List (List AV)), (∀ r, r ∈ rs → r.length = es) → k ≤ rs.length → (rs.drop k).flatten = rs.flatten.drop (k * es) ∧ (rs.take k).flatten = rs.flatten.take (k * es) := fun k rs hrs hk => by
      have h1 : rs.flatten = (rs.take k).flatten ++ (rs.drop k).flatten := by rw [← List.flatten_append, List.take_append_drop]
      have h2 : (rs.take k).flatten.length = k * es := by
        rw [flatten_len (fun r hr => hrs r (List.mem_of_mem_take hr)), List.length_take]; congr 1; omega
      constructor
      · rw [h1, ← h2, List.drop_left']; rfl
      · rw [h1, ← h2, List.take_left']; rfl
    have hfl2 : ((rows.drop a).take (b - a)).flatten = (rows.flatten.drop (a * es)).take ((b - a) * es) := by
      rw [(hfl (b - a) (rows.drop a) (fun r hr => h0 r (List.mem_of_mem_drop hr)) (by rw [List.length_drop]; omega)).2, (hfl a rows h0 (by omega)).1]
    have hm1 : (a + (b - a)) * es ≤ rows.length * es := Nat.mul_le_mul_right es (by omega)
    rw [Nat.add_mul] at hm1
    have hcut : cellsAt B H o (off + a * es) (((rows.drop a).take (b - a)).length * es) = some ((rows.drop a).take (b - a)).flatten := by
      rw [hlen, cellsAt_sub hcl (j := a * es) (m := (b - a) * es) hm1, hfl2]
    simp only [sliceOf]
    rw [if_pos ⟨trivial, by omega, by omega, by omega⟩]
    cases cap with
    | none => exact ⟨_, rfl, ⟨h0', .inr ⟨o, off + a * es, none, by rw [hlen]; simp, hcut⟩⟩, fun o off len es c e => by cases e⟩
    | some c =>
      have hz : rows.length ≤ c := hc _ _ _ _ _ rfl
      refine ⟨_, rfl, ⟨h0', .inr ⟨o, (if c = (a : Int).toNat then off else off + (a : Int).toNat * es), some (c - (a : Int).toNat), by rw [hlen]; simp, ?_⟩⟩, fun o' off' len es' c' e => by cases e; omega⟩
      by_cases hcj : c = a
      · have hnil : (rows.drop a).take (b - a) = [] := List.length_eq_zero_iff.1 (by omega)
        rw [hnil]
        obtain ⟨cs, x, y, _⟩ := cellsAt_iff'.1 hcl
        refine cellsAt_iff'.2 ⟨cs, x, ?_, by simp⟩
        rw [if_pos (by omega)]; simp; omega
      · rw [if_neg (by omega)]
        simpa using hcut
theorem op_sl3 {K : AV → Heap → Prop} {es len : Nat} {v r : AV} {a b : Int} (hl : lenOf v = some len) (hs : sliceOf es v a b = some r) (hk : K r G) : aop B E0 G K (.sliceL es (.const v) (some (.const (.int .i64 a))) (some (.const (.int .i64 b))) none) := by
  simp only [aop, opK, Opd.look, ob_some, hl, optK, pAny_int, hs]; exact hk

theorem op_sl2 {K : AV → Heap → Prop} {es len : Nat} {v r : AV} {a : Int} (hl : lenOf v = some len) (hs : sliceOf es v a (len : Int) = some r) (hk : K r G) : aop B E0 G K (.sliceL es (.const v) (some (.const (.int .i64 a))) none none) := by
  simp only [aop, opK, Opd.look, ob_some, hl, optK, pAny_int, hs]; exact hk

theorem live_tuple {l : List AV} {K : AV → Prop} (h : K (.tuple l)) : pLive (.tuple l) K := h
theorem op_extS {K : AV → Heap → Prop} {l : List AV} {i : Nat} {s : List UInt8} (h : l[i]? = some (.str s)) (hk : K (.str s) G) : aop B E0 G K (.extract (some .str) i (.const (.tuple l))) := by
  simp only [aop, opK, Opd.look, ob_some, h]
  exact hk
theorem op_extB {K : AV → Heap → Prop} {l : List AV} {i : Nat} {b : Bool} (h : l[i]? = some (.bool b)) (hk : K (.bool b) G) : aop B E0 G K (.extract (some .bool) i (.const (.tuple l))) := by
  simp only [aop, opK, Opd.look, ob_some, h]
  cases b <;> exact hk

theorem op_extI {K : AV → Heap → Prop} {l : List AV} {i : Nat} {m : Int} (h : l[i]? = some (.int .i64 m)) (hk : K (.int .i64 m) G) : aop B E0 G K (.extract (some (.int .i64)) i (.const (.tuple l))) := by
  simp only [aop, opK, Opd.look, ob_some, h, extK, tyK]
  rw [pInt_int]; exact hk

theorem op_app {K : AV → Heap → Prop} {es bytes m : Nat} {v u r : AV} {c : List AV} {G' : Heap} (hl : lenOf u = some m) (he : elemsOf B G u = some c) (hn : c.length = m * es) (ha : appendTo B G es bytes v m c = some (r, G')) (hk : K r G') :
    aop B E0 G K (.append es bytes (.const v) (.const u)) := by
  simp only [aop, opK, Opd.look, ob_some, hl, he]
  rw [if_pos hn, ha, ob_some]
  exact hk

theorem calleeK_val {f : FuncId} {first args captured : List AV} {K : FuncId → List AV → Prop} (h : K f (first ++ args ++ captured)) : calleeK B E0 G args K (.val (.const (.func (.func f) first captured))) := h
end

def at? : AV → Option Nat
  | .slice (.new j) _ _ _ _ => some j
  | _ => none
/-- A slice that grows by itself. -/
def GrC (H : Heap) (C : Nat → Option AObj) (es : Nat) (v : AV) (rows : List (List AV)) : Prop :=
  (∀ r, r ∈ rows → r.length = es) ∧ ((v = .nils ∧ rows = []) ∨ ∃ j, v = .slice (.new j) 0 rows.length es none ∧ H.length ≤ j ∧ C j = some (.arr rows.flatten))

/-- Behind H; and what C tells stands. -/
structure KW (H G : Heap) (C : Nat → Option AObj) : Prop where
  pre : ∃ L, G = H ++ L
  cs : ∀ p o, C p = some o → G[p]? = some o

section
variable {B : Base} {n : Nat} {H G : Heap} {C : Nat → Option AObj} {Q : AV → Heap → Prop}

theorem KW.lt (h : KW H G C) {p : Nat} {o : AObj} (hp : C p = some o) : p < G.length := lt_of_get (h.cs p o hp)
theorem KW.grow (h : KW H G C) (L : List AObj) : KW H (G ++ L) C := by
  obtain ⟨⟨L0, rfl⟩, h2⟩ := h
  exact ⟨⟨L0 ++ L, List.append_assoc ..⟩, fun p o hp => get_pre (h2 p o hp)⟩
theorem KW.set (h : KW H G C) {p : Nat} {o : AObj} (hp : C p = some o) (hl : H.length ≤ p) (o' : AObj) : KW H (G.set p o') (updC C p o') := by
  have hlt := h.lt hp
  obtain ⟨⟨L0, rfl⟩, h2⟩ := h
  refine ⟨set_preL hl, fun q o2 hq => ?_⟩
  unfold updC at hq
  split at hq
  · rename_i e; subst e; cases hq; exact get_set hlt
  · rename_i e; rw [get_set_ne (Ne.symm e)]; exact h2 q o2 hq
theorem KW.add (h : KW H G C) (o : AObj) : KW H (G ++ [o]) (updC C G.length o) := by
  have h1 := h.grow [o]
  refine ⟨h1.pre, fun q o2 hq => ?_⟩
  unfold updC at hq
  split at hq
  · rename_i e; subst e; cases hq; rw [get_app0]; rfl
  · exact h1.cs q o2 hq
/-- Append of rows, where it grows by itself. -/
theorem op_appKW {K : AV → Heap → Prop} {es bytes : Nat} {v u : AV} {rows rows2 : List (List AV)} (h : KW H G C) (hg : GrC H C es v rows) (hu : Sl B G es u rows2) (hne : rows2 ≠ []) (hb : (rows.length + rows2.length) * bytes ≤ maxBytes)
    (hk : ∀ v' G' C', KW H G' C' → GrC H C' es v' (rows ++ rows2) → (∀ j, at? v' = some j → G.length ≤ j) → (∀ p o, C p = some o → at? v ≠ some p → C' p = some o) → G.length ≤ G'.length → K v' G') : aop B E0 G K (.append es bytes (.const v) (.const u)) := by
  have hl2 := flatten_len hu.1
  have hn2 : rows2.length ≠ 0 := by intro e; exact hne (List.length_eq_zero_iff.1 e)
  obtain ⟨L, hL⟩ := h.pre
  have hHG : H.length ≤ G.length := by rw [hL, List.length_append]; omega
  have hrows : ∀ r, r ∈ rows ++ rows2 → r.length = es := fun r hm => (List.mem_append.1 hm).elim (hg.1 r) (hu.1 r)
  obtain ⟨h0, ⟨rfl, rfl⟩ | ⟨q, rfl, hq, hgq⟩⟩ := hg
  · refine op_app hu.len hu.elems hl2 (appendTo_nil hn2 (by simpa using hb)) (hk _ _ _ (h.add (.arr rows2.flatten)) ⟨hrows, .inr ⟨G.length, ?_, hHG, ?_⟩⟩ (fun j hj => ?_) (fun p o hp _ => ?_) (by rw [List.length_append]; omega))
    · simp
    · rw [updC_at]; simp
    · cases hj; exact Nat.le_refl _
    · have := h.lt hp
      rw [updC_ne (by omega)]; exact hp
  · have hc : cellsAt B G (.new q) 0 (rows.length * es) = some rows.flatten :=
      cellsAt_iff'.2 ⟨rows.flatten, by simp only [cellsOf, h.cs q _ hgq], by rw [flatten_len h0]; omega, by rw [List.drop_zero, ← flatten_len h0, List.take_length]⟩
    have hql := h.lt hgq
    have h2 := (h.set hgq hq .gone).add (.arr (rows.flatten ++ rows2.flatten))
    have hlen : (G.set q AObj.gone).length = G.length := List.length_set
    refine op_app hu.len hu.elems hl2 (appendTo_own hn2 hb hc) (hk _ _ _ h2 ⟨hrows, .inr ⟨G.length, by rw [List.length_append], hHG, ?_⟩⟩ (fun j hj => ?_) (fun p o hp hne' => ?_) (by rw [List.length_append, hlen]; omega))
    · rw [hlen, updC_at]; simp
    · cases hj; exact Nat.le_refl _
    · have := h.lt hp
      rw [updC_ne (by rw [hlen]; omega), updC_ne (fun e => hne' (by rw [e]; rfl))]; exact hp

end
end Go.Am

/- Readers: the package codec's Get and Text; the reader's takes, number, text. -/
namespace Go.Am
open Go

/-! ### What is read -/
def shl7 (c : UInt8) (i : Nat) : Int := IntKind.u64.wrap (IntKind.u64.wrap (bitsOp .and IntKind.u8 (c.toNat : Int) 127) * 2 ^ (min (7 * (i : Int)).toNat IntKind.u64.bits))
def getGo : Int → Nat → List UInt8 → Int × Nat × Bool
  | _, _, [] => (0, 0, false)
  | v, i, c :: r =>
    if (i = 9 ∧ c.toNat > 1) ∨ (0 < i ∧ c.toNat = 0) then (0, 0, false)
    else if c.toNat < 128 then (bitsOp .or IntKind.u64 v (shl7 c i), i + 1, true) else getGo (bitsOp .or IntKind.u64 v (shl7 c i)) (i + 1) r
def getF (s : List UInt8) : Int × Nat × Bool := getGo 0 0 (s.take 10)
theorem u64_wrap (n : Int) : 0 ≤ IntKind.u64.wrap n ∧ IntKind.u64.wrap n < 18446744073709551616 := by
  simp only [IntKind.wrap, IntKind.bits, IntKind.signed]
  simp; omega
theorem or_range (a b : Int) : 0 ≤ bitsOp .or IntKind.u64 a b ∧ bitsOp .or IntKind.u64 a b < 18446744073709551616 := u64_wrap _
theorem getGo_ok : ∀ (r : List UInt8) (v : Int) (i : Nat), 0 ≤ (getGo v i r).1 ∧ (getGo v i r).1 < 18446744073709551616 ∧ (getGo v i r).2.1 ≤ i + r.length ∧ ((getGo v i r).2.2 = false → (getGo v i r).2.1 = 0)
  | [], v, i => by simp [getGo]
  | c :: r, v, i => by
    rw [getGo]
    split
    · simp
    · split
      · have := or_range v (shl7 c i)
        refine ⟨this.1, this.2, ?_, fun h => by cases h⟩
        simp only [List.length_cons]; omega
      · have := getGo_ok r (bitsOp .or IntKind.u64 v (shl7 c i)) (i + 1)
        rw [List.length_cons]
        refine ⟨this.1, this.2.1, by omega, this.2.2.2⟩
theorem getF_ok (s : List UInt8) : 0 ≤ (getF s).1 ∧ (getF s).1 < 18446744073709551616 ∧ (getF s).2.1 ≤ s.length ∧ ((getF s).2.2 = false → (getF s).2.1 = 0) := by
  have := getGo_ok (s.take 10) 0 0
  rw [List.length_take] at this
  unfold getF
  exact ⟨this.1, this.2.1, by omega, this.2.2.2⟩
/-- A text that is read. -/
def textF (s : List UInt8) : List UInt8 × Nat × Bool :=
  if (getF s).2.2 = false ∨ (getF s).1 > (s.length : Int) - ((getF s).2.1 : Int) then ([], 0, false) else ((s.drop (getF s).2.1).take (getF s).1.toNat, (getF s).2.1 + (getF s).1.toNat, true)
theorem textF_ok (s : List UInt8) : (textF s).2.1 ≤ s.length ∧ (textF s).1.length ≤ s.length := by
  have := getF_ok s
  unfold textF
  split
  · simp
  · rename_i h
    have h := fun x => h (.inr x)
    refine ⟨?_, ?_⟩
    · show (getF s).2.1 + (getF s).1.toNat ≤ s.length
      omega
    · show ((s.drop (getF s).2.1).take (getF s).1.toNat).length ≤ s.length
      rw [List.length_take, List.length_drop]; omega

section
variable {B : Base} {n : Nat} {H G : Heap} {C : Nat → Option AObj} {Q : AV → Heap → Prop}

theorem brw_take (s : List UInt8) (a m : Nat) : ((s.map brw).drop a).take m = ((s.drop a).take m).map brw := by rw [← List.map_drop, ← List.map_take]
theorem bs_rows {v : AV} {s : List UInt8} (h : Bs B G v s) : Sl B G 1 v (s.map brw) := h

theorem get_loop {v : AV} {t : List UInt8} (hv : Bs B G v t) (ht : t.length ≤ 10) : ∀ (r : List UInt8) (i : Nat) (a : Int), t.drop i = r → 0 ≤ a → Q (.tuple [.int .u64 (getGo a i r).1, .int .i64 ((getGo a i r).2.1 : Int), .bool (getGo a i r).2.2]) G →
    L81_4 B (Cl B) n a v (t.length : Int) (i : Int) G Q := by
  intro r
  induction r with
  | nil =>
    intro i a hd ha hq
    have := drop_nil hd
    refine L81_4_in (ACall.cle B table) (ib_lt (J81_3_in ?_))
    rw [decide_eq_false (by omega), pBool_bool, if_neg (by decide)]
    exact J81_5_in (tidy_none hq)
  | cons c r ih =>
    intro i a hd ha hq
    obtain ⟨g1, g2, g3⟩ := drop_cons hd
    refine L81_4_in (ACall.cle B table) (ib_lt (J81_3_in ?_))
    rw [decide_eq_true (by omega), pBool_bool, if_pos rfl]
    refine op_idxB hv g1 fun hpk => ?_
    rw [hpk, ob_some, pInt_int]
    have hc : c.toNat < 256 := c.toNat_lt
    have eni : IntKind.i64.wrap ((i : Int) + 1) = ((i + 1 : Nat) : Int) := by rw [w64 (by omega)]; omega
    have hlo : c.toNat < 128 → decide ((c.toNat : Int) < 128) = true := fun h => decide_eq_true (Int.ofNat_lt.2 h)
    have hhi : 128 ≤ c.toNat → decide ((c.toNat : Int) < 128) = false := fun h => decide_eq_false (Int.not_lt.2 (Int.ofNat_le.2 h))
    have step : ∀ b : Bool, (b = true ↔ ((i = 9 ∧ c.toNat > 1) ∨ (0 < i ∧ c.toNat = 0))) → J81_0 B (Cl B) n a (i : Int) (c.toNat : Int) v (t.length : Int) (i : Int) (.bool b) G Q := fun b hb => by
      refine J81_0_in ?_
      rw [pBool_bool]
      rw [getGo] at hq
      split
      · rename_i hbt
        rw [if_pos (hb.1 hbt)] at hq
        exact J81_5_in (tidy_none hq)
      · rename_i hbt
        rw [if_neg (fun h => hbt (hb.2 h))] at hq
        have e7 : IntKind.i64.wrap (7 * (i : Int)) = 7 * (i : Int) := w64 (by omega)
        have eshf : ∀ {K : AV → Heap → Prop}, K (.int .u64 (shl7 c i)) G → aop B E0 G K (.shf .shl .u64 (.const (.int .u64 (IntKind.u64.wrap (bitsOp .and IntKind.u8 (c.toNat : Int) 127)))) (.const (.int .i64 (IntKind.i64.wrap (7 * (i : Int)))))) := fun {K} hk => by
          rw [e7]
          simp only [aop, opK, Opd.look, ob_some, pInt_int, pAny_int, shfK]
          rw [if_neg (by omega)]
          exact hk
        refine eshf ?_
        have hrec := fun x => ih (i + 1) x g3
        have hrng := (or_range a (shl7 c i)).1
        generalize shl7 c i = w0 at hq hrng ⊢
        rw [pInt_int]
        refine J81_1_in ?_
        generalize c.toNat = m at hq ⊢
        have hx := hq
        clear hq
        rw [bs_iff]
        refine ⟨fun h => tidy_none ?_, fun h => ?_⟩
        · rw [if_pos (Int.ofNat_lt.1 (of_decide_eq_true h))] at hx
          rw [eni]; exact hx
        · rw [if_neg (fun h2 => (of_decide_eq_false h) (Int.ofNat_lt.2 h2))] at hx
          rw [eni]
          exact hrec _ (or_range _ _).1 hx
    refine J81_2_in ?_
    have tail : (i = 9 ∧ c.toNat > 1 → False) → bs (decide ((i : Int) > 0)) (ibinK .eql .u8 (c.toNat : Int) 0 fun v9 => J81_0 B (Cl B) n a (i : Int) (c.toNat : Int) v (t.length : Int) (i : Int) v9 G Q) (J81_0 B (Cl B) n a (i : Int) (c.toNat : Int) v (t.length : Int) (i : Int) (.bool false) G Q) := fun hno => by
      refine bs_dec (fun h => ib_eq (step _ ?_)) fun h => step false ?_
      · rw [decide_eq_true_eq]
        constructor
        · intro h2; exact .inr ⟨by omega, by omega⟩
        · rintro (h2 | ⟨_, h2⟩)
          · exact (hno h2).elim
          · omega
      · constructor
        · intro h2; cases h2
        · rintro (h2 | ⟨h2, _⟩)
          · exact (hno h2).elim
          · omega
    refine bs_iff.2 ⟨fun h9 => ?_, fun h9 => tail fun h => ?_⟩
    · have h9 : i = 9 := by have : (i : Int) = 9 := by simpa using h9
                            omega
      refine bs_dec (fun h1 => step true ?_) fun h1 => tail fun h => by omega
      exact ⟨fun _ => .inl ⟨h9, by omega⟩, fun _ => rfl⟩
    · have h9 : ¬ (i : Int) = 9 := by simpa using h9
      omega

theorem f81_ok {v : AV} {s : List UInt8} (hv : Bs B G v s) (hq : Q (.tuple [.int .u64 (getF s).1, .int .i64 ((getF s).2.1 : Int), .bool (getF s).2.2]) G) : Cl B 81 [v] G Q := by
  refine f81_in fun n cl hn hcl hH hA => J81_7_in (J81_6_in ?_)
  subst hcl
  rw [hv.len, ob_some]
  have em : minInts (s.length : Int) [(10 : Int)] = ((min s.length 10 : Nat) : Int) := by simp only [minInts]; split <;> omega
  rw [em]
  refine op_prefix (bs_rows hv) rfl (by rw [List.length_map]; omega) fun v' hv' _ => ?_
  have htk : (s.map brw).take (min s.length 10) = (s.take 10).map brw := by
    rw [List.map_take, Nat.min_comm, ← List.length_map (f := brw)]
    exact (List.take_eq_take_min ..).symm
  rw [htk] at hv'
  have hv2 : Bs B G v' (s.take 10) := hv'
  rw [hv2.len, ob_some]
  exact get_loop hv2 (by rw [List.length_take]; omega) (s.take 10) 0 0 rfl (Int.le_refl _) hq

theorem f80_ok {v : AV} {s : List UInt8} (hv : Bs B G v s) (hc : capOK v) (hs : (s.length : Int) ≤ 1000000) (hq : Q (.tuple [.str (textF s).1, .int .i64 ((textF s).2.1 : Int), .bool (textF s).2.2]) G) : Cl B 80 [v] G Q := by
  refine f80_in fun n cl hn hcl hH hA => J80_4_in ?_
  subst hcl
  obtain ⟨k1, k2, k3, k4⟩ := getF_ok s
  refine f81_ok hv (live_tuple ?_)
  have extU : ∀ {K : AV → Heap → Prop} {l : List AV} {i : Nat} {m : Int}, l[i]? = some (.int .u64 m) → K (.int .u64 m) G → aop B E0 G K (.extract (some (.int .u64)) i (.const (.tuple l))) := fun {K l i m} h hk => by
    simp only [aop, opK, Opd.look, ob_some, h, extK, tyK]
    rw [pInt_int]; exact hk
  refine extU rfl (op_extI rfl ?_)
  refine op_extB (b := (getF s).2.2) rfl (J80_3_in ?_)
  rw [pBool_bool]
  unfold textF at hq
  have bad : ((getF s).2.2 = false ∨ (getF s).1 > (s.length : Int) - ((getF s).2.1 : Int)) → J80_0 B (Cl B) n v (.int .u64 (getF s).1) (.int .i64 ((getF s).2.1 : Int)) (.bool true) G Q := fun h => by
    refine J80_0_in ?_
    rw [pBool_bool, if_pos rfl]
    rw [if_pos h] at hq
    exact tidy_none hq
  refine bs_iff.2 ⟨fun hok => ?_, fun hno => bad (.inl hno)⟩
  rw [hv.len, ob_some, pInt_int, pInt_int]
  have ew : IntKind.u64.wrap (IntKind.i64.wrap ((s.length : Int) - ((getF s).2.1 : Int))) = (s.length : Int) - ((getF s).2.1 : Int) := by
    rw [w64 (by omega)]
    simp only [IntKind.wrap, IntKind.bits, IntKind.signed]
    simp; omega
  rw [ew]
  by_cases hgt : (getF s).1 > (s.length : Int) - ((getF s).2.1 : Int)
  · exact ib_gt_yes hgt (bad (.inr hgt))
  · refine ib_gt_no hgt (J80_0_in ?_)
    rw [pBool_bool, if_neg (by decide)]
    rw [if_neg (by rintro (h | h); · rw [hok] at h; cases h
                   · exact hgt h)] at hq
    refine J80_2_in ?_
    rw [pInt_int, pInt_int, w64 (n := (getF s).1) (by omega), w64 (by omega)]
    refine J80_1_in ?_
    obtain ⟨v', s1, s2, _⟩ := cut_of (bs_rows hv) hc (a := (getF s).2.1) (b := (getF s).2.1 + (getF s).1.toNat) (by omega) (by rw [List.length_map]; omega)
    have eb : ((getF s).2.1 : Int) + (getF s).1 = (((getF s).2.1 + (getF s).1.toNat : Nat) : Int) := by omega
    rw [eb]
    refine op_sl3 hv.len s1 ?_
    rw [Nat.add_sub_cancel_left, brw_take] at s2
    exact op_toStr s2 (tidy_none hq)

end
end Go.Am

/- Readers: takes, number, text of the wire's reader. -/
namespace Go.Am
open Go

def pt (p : Nat) : AV := .ptr (some (.new p, 0))
/-- At p a reader, of at most N bytes. -/
def Rdr (B : Base) (H : Heap) (C : Nat → Option AObj) (p N : Nat) : Prop := ∃ bv w s, C p = some (.var [bv, .bool w]) ∧ H.length ≤ p ∧ Bs B H bv s ∧ capOK bv ∧ s.length ≤ N
def Keeps1 (C C' : Nat → Option AObj) (p : Nat) : Prop := ∀ q o, q ≠ p → C q = some o → C' q = some o
/-- What is asked behind a reading. -/
def RdK (B : Base) (H : Heap) (C : Nat → Option AObj) (p N : Nat) (P : Heap → Prop) : Prop := ∀ G' C', KW H G' C' → Keeps1 C C' p → Rdr B H C' p N → P G'

section
variable {B : Base} {n : Nat} {H G : Heap} {C : Nat → Option AObj} {Q : AV → Heap → Prop} {p N : Nat}

theorem live_pt' {K : AV → Prop} (h : K (pt p)) : pLive (pt p) K := h
theorem Keeps1.refl : Keeps1 C C p := fun _ _ _ h => h
theorem Keeps1.upd {C' : Nat → Option AObj} {o : AObj} (h : Keeps1 C C' p) : Keeps1 C (updC C' p o) p := fun q o' hq hc => by rw [updC_ne hq]; exact h q o' hq hc
theorem Keeps1.trans {C' C'' : Nat → Option AObj} (h : Keeps1 C C' p) (h2 : Keeps1 C' C'' p) : Keeps1 C C'' p := fun q o hq hc => h2 q o hq (h q o hq hc)
theorem bs_nil : Bs B H .nils [] := Bs.nil
theorem cap_nil : capOK .nils := fun o off len es c e => by cases e
theorem bs_cells {v : AV} {s : List UInt8} (h : Bs B H v s) : v.cells? = some [v] := by
  obtain ⟨_, ⟨rfl, _⟩ | ⟨o, off, cap, rfl, _⟩⟩ := h <;> rfl
theorem KW.bs {v : AV} {s : List UInt8} (h : KW H G C) (hb : Bs B H v s) : Bs B G v s := by
  obtain ⟨⟨L, rfl⟩, _⟩ := h; exact hb.pre
theorem bs_drop {v : AV} {s : List UInt8} {m : Nat} (h : Bs B H v s) (hc : capOK v) (hm : m ≤ s.length) : ∃ v', sliceOf 1 v (m : Int) (s.length : Int) = some v' ∧ Bs B H v' (s.drop m) ∧ capOK v' := by
  obtain ⟨v', s1, s2, s3⟩ := cut_of (bs_rows h) hc (a := m) (b := s.length) hm (by rw [List.length_map]; exact Nat.le_refl _)
  rw [brw_take, List.take_of_length_le (by rw [List.length_drop]; exact Nat.le_refl _)] at s2
  exact ⟨v', s1, s2, s3⟩

theorem f79_ok {bv : AV} {w ok : Bool} {s : List UInt8} {m : Nat} (h : KW H G C) (hc : C p = some (.var [bv, .bool w])) (hp : H.length ≤ p) (hb : Bs B H bv s) (hcap : capOK bv) (hm : ok = true → m ≤ s.length) (hN : s.length ≤ N)
    (hq : RdK B H C p N fun G' => Q (.bool (!(w || !ok))) G') : Cl B 79 [pt p, .int .i64 (m : Int), .bool ok] G Q := by
  have hg := h.cs p _ hc
  refine f79_in fun n cl hn hcl hH hA => J79_2_in (op_nil (op_fldP ?_))
  rw [peekV hg (v := .bool w) rfl, ob_some, pBool_bool]
  -- behind wrong is written
  have next : ∀ w' : Bool, w' = (w || !ok) → J79_0 B cl n (pt p) (m : Int) (G.set p (.var [bv, .bool w'])) Q := fun w' hw' => by
    have h2 := h.set hc hp (.var [bv, .bool w'])
    have hg2 := h2.cs p _ updC_at
    refine J79_0_in (op_nil (op_fldP ?_))
    rw [peekV hg2 (v := .bool w') rfl, ob_some, pBool_bool]
    refine bs_iff.2 ⟨fun ht => op_nil (op_fldP ?_), fun hf => J79_1_in (op_nil (op_fldP ?_))⟩
    · refine op_st (c := [bv, .bool w']) (vs := [.nils]) rfl rfl hg2 (by simp) (tidy_none ?_)
      have h3 := h2.set updC_at hp (.var (putAt [bv, .bool w'] (0 + 0) [.nils]))
      have := hq _ _ h3 Keeps1.refl.upd.upd ⟨.nils, w', [], by rw [updC_at]; rfl, hp, bs_nil, cap_nil, Nat.zero_le _⟩
      have e1 : (!(w || !ok)) = false := by rw [← hw', ht]; rfl
      rw [e1] at this
      exact this
    · rw [peekV hg2 (v := bv) rfl, ob_some]
      have hok : ok = true := by
        have e1 : (w || !ok) = false := by rw [← hw', hf]
        have e2 := (Bool.or_eq_false_iff.1 e1).2
        cases hok : ok with
        | true => rfl
        | false => rw [hok] at e2; cases e2
      obtain ⟨v', s1, s2, s3⟩ := bs_drop hb hcap (hm hok)
      refine Sl.live (h2.bs hb) _ (op_sl2 (h2.bs hb).len s1 (op_nil (op_fldP ?_)))
      refine op_st (c := [bv, .bool w']) (vs := [v']) (bs_cells s2) rfl hg2 (by simp) (tidy_none ?_)
      have h3 := h2.set updC_at hp (.var (putAt [bv, .bool w'] (0 + 0) [v']))
      have := hq _ _ h3 Keeps1.refl.upd.upd ⟨v', w', s.drop m, by rw [updC_at]; rfl, hp, s2, s3, by rw [List.length_drop]; omega⟩
      have e1 : (!(w || !ok)) = true := by rw [← hw', hf]; rfl
      rw [e1] at this
      exact this
  refine bs_iff.2 ⟨fun hw => op_nil (op_fldP ?_), fun hw => op_notB (op_nil (op_fldP ?_))⟩
  · refine op_st (c := [bv, .bool w]) (vs := [.bool true]) rfl rfl hg (by simp) ?_
    exact next true (by rw [hw]; rfl)
  · refine op_st (c := [bv, .bool w]) (vs := [.bool (!ok)]) rfl rfl hg (by simp) ?_
    exact next (!ok) (by rw [hw]; rfl)

theorem op_extU {K : AV → Heap → Prop} {l : List AV} {i : Nat} {m : Int} (h : l[i]? = some (.int .u64 m)) (hk : K (.int .u64 m) G) : aop B E0 G K (.extract (some (.int .u64)) i (.const (.tuple l))) := by
  simp only [aop, opK, Opd.look, ob_some, h, extK, tyK]
  rw [pInt_int]; exact hk

/-- A number that is read. -/
theorem f51_ok {most : Nat} (h : KW H G C) (hr : Rdr B H C p N) (hmost : (most : Int) < 9223372036854775807) (hq : ∀ m : Nat, m ≤ most → RdK B H C p N fun G' => Q (.int .i64 (m : Int)) G') : Cl B 51 [pt p, .int .i64 (most : Int)] G Q := by
  obtain ⟨bv, w, s, hc, hp, hb, hcap, hN⟩ := hr
  have hg := h.cs p _ hc
  obtain ⟨k1, k2, k3, k4⟩ := getF_ok s
  refine f51_in fun n cl hn hcl hH hA => op_nil (op_fldP ?_)
  subst hcl
  rw [peekV hg (v := bv) rfl, ob_some]
  have hbG := h.bs hb
  refine Sl.live hbG _ (f81_ok hbG (live_tuple (op_extU rfl (op_extI rfl ?_))))
  refine op_extB (b := (getF s).2.2) rfl ?_
  rw [pGuard_bool]
  have ew : IntKind.u64.wrap (most : Int) = (most : Int) := by
    simp only [IntKind.wrap, IntKind.bits, IntKind.signed]
    simp; omega
  refine bs_iff.2 ⟨fun hok => ?_, fun hno => ?_⟩
  · rw [pInt_int, ew]
    refine ib_le (f79_ok h hc hp hb hcap (fun _ => k3) hN ?_)
    intro G' C' a1 a2 a3
    rw [pBool_bool]
    refine bs_iff.2 ⟨fun ht => ?_, fun _ => tidy_none (hq 0 (Nat.zero_le _) G' C' a1 a2 a3)⟩
    have hle : (getF s).1 ≤ (most : Int) := by
      have : (decide ((getF s).1 ≤ (most : Int))) = true := by
        cases hd : decide ((getF s).1 ≤ (most : Int)) with
        | true => rfl
        | false =>
          rw [hd] at ht
          cases w <;> cases ht
      exact of_decide_eq_true this
    rw [pInt_int, w64 (by omega)]
    obtain ⟨m, hm⟩ : ∃ m : Nat, (getF s).1 = (m : Int) := ⟨(getF s).1.toNat, by omega⟩
    rw [hm] at hle ⊢
    exact tidy_none (hq m (by omega) G' C' a1 a2 a3)
  · refine f79_ok h hc hp hb hcap (fun h => by cases h) hN ?_
    intro G' C' a1 a2 a3
    rw [pBool_bool]
    refine bs_no (by cases w <;> rfl) (tidy_none (hq 0 (Nat.zero_le _) G' C' a1 a2 a3))

/-- A text that is read. -/
theorem f50_ok (h : KW H G C) (hr : Rdr B H C p N) (hNN : N ≤ 1000000) (hq : ∀ t : List UInt8, t.length ≤ N → RdK B H C p N fun G' => Q (.str t) G') : Cl B 50 [pt p] G Q := by
  obtain ⟨bv, w, s, hc, hp, hb, hcap, hN⟩ := hr
  have hg := h.cs p _ hc
  obtain ⟨k1, k2⟩ := textF_ok s
  refine f50_in fun n cl hn hcl hH hA => op_nil (op_fldP ?_)
  subst hcl
  rw [peekV hg (v := bv) rfl, ob_some]
  have hbG := h.bs hb
  refine Sl.live hbG _ (f80_ok hbG hcap (by omega) (live_tuple (op_extS rfl (op_extI rfl ?_))))
  refine op_extB (b := (textF s).2.2) rfl ?_
  refine f79_ok h hc hp hb hcap (fun _ => k1) hN ?_
  intro G' C' a1 a2 a3
  rw [pBool_bool]
  exact bs_iff.2 ⟨fun _ => tidy_none (hq _ (by omega) G' C' a1 a2 a3), fun _ => tidy_none (hq [] (Nat.zero_le _) G' C' a1 a2 a3)⟩

end
end Go.Am

/- Readers: the package entry's reader. -/
namespace Go.Am
open Go

/-- What is asked behind a reading of the package entry. -/
def EdK (H : Heap) (C : Nat → Option AObj) (p : Nat) (bv : AV) (s : List UInt8) (P : Heap → Prop) : Prop := ∀ G' C' (a : Nat) (w : Bool), KW H G' C' → Keeps1 C C' p → C' p = some (.var [bv, .int .i64 (a : Int), .bool w]) → a ≤ s.length → P G'

section
variable {B : Base} {n : Nat} {H G : Heap} {C : Nat → Option AObj} {Q : AV → Heap → Prop} {p N : Nat}

theorem f98_ok {bv : AV} {w : Bool} {s : List UInt8} {at' : Nat} (h : KW H G C) (hc : C p = some (.var [bv, .int .i64 (at' : Int), .bool w])) (hp : H.length ≤ p) (hb : Bs B H bv s) (hcap : capOK bv) (hat : at' ≤ s.length) (hs : s.length ≤ 1000000)
    (hq : ∀ v : Int, 0 ≤ v → v < 18446744073709551616 → EdK H C p bv s fun G' => Q (.int .u64 v) G') : Cl B 98 [pt p] G Q := by
  have hg := h.cs p _ hc
  obtain ⟨k1, k2, k3, k4⟩ := getF_ok (s.drop at')
  rw [List.length_drop] at k3
  refine f98_in fun n cl hn hcl hH hA => J98_3_in (op_nil (op_fldP ?_))
  subst hcl
  rw [peekV hg (v := bv) rfl, ob_some]
  have hbG := h.bs hb
  refine Sl.live hbG _ (op_nil (op_fldP ?_))
  rw [peekV hg (v := .int .i64 (at' : Int)) rfl, ob_some, pInt_int]
  obtain ⟨v', s1, s2, s3⟩ := bs_drop hbG hcap hat
  refine op_sl2 hbG.len s1 ?_
  refine f81_ok s2 (live_tuple (op_extU rfl (op_extI rfl ?_)))
  refine op_extB (b := (getF (s.drop at')).2.2) rfl (J98_2_in (op_nil (op_fldP ?_)))
  rw [peekV hg (v := .int .i64 (at' : Int)) rfl, ob_some, pInt_int, pInt_int]
  refine op_nil (op_fldP ?_)
  rw [w64 (by omega)]
  have ea : (at' : Int) + ((getF (s.drop at')).2.1 : Int) = ((at' + (getF (s.drop at')).2.1 : Nat) : Int) := by omega
  rw [ea]
  refine op_st (c := [bv, .int .i64 (at' : Int), .bool w]) (vs := [.int .i64 ((at' + (getF (s.drop at')).2.1 : Nat) : Int)]) rfl rfl hg (by simp) (J98_1_in ?_)
  have h2 := h.set hc hp (.var [bv, .int .i64 ((at' + (getF (s.drop at')).2.1 : Nat) : Int), .bool w])
  have hg2 := h2.cs p _ updC_at
  rw [show putAt [bv, .int .i64 (at' : Int), .bool w] (0 + 1) [.int .i64 ((at' + (getF (s.drop at')).2.1 : Nat) : Int)] = [bv, .int .i64 ((at' + (getF (s.drop at')).2.1 : Nat) : Int), .bool w] from rfl]
  refine op_nil (op_fldP ?_)
  rw [peekV hg2 (v := .bool w) rfl, ob_some, pBool_bool]
  have fin : ∀ b : Bool, J98_0 B (Cl B) n (.int .u64 (getF (s.drop at')).1) ((G.set p (.var [bv, .int .i64 ((at' + (getF (s.drop at')).2.1 : Nat) : Int), .bool w])).set p (.var [bv, .int .i64 ((at' + (getF (s.drop at')).2.1 : Nat) : Int), .bool b])) Q := fun b => by
    refine J98_0_in (tidy_none ?_)
    have h3 := h2.set updC_at hp (.var [bv, .int .i64 ((at' + (getF (s.drop at')).2.1 : Nat) : Int), .bool b])
    exact hq _ k1 k2 _ _ _ b h3 Keeps1.refl.upd.upd updC_at (by omega)
  refine bs_iff.2 ⟨fun _ => op_nil (op_fldP ?_), fun _ => op_notB (op_nil (op_fldP ?_))⟩
  · exact op_st (c := [bv, .int .i64 ((at' + (getF (s.drop at')).2.1 : Nat) : Int), .bool w]) (vs := [.bool true]) rfl rfl hg2 (by simp) (fin true)
  · exact op_st (c := [bv, .int .i64 ((at' + (getF (s.drop at')).2.1 : Nat) : Int), .bool w]) (vs := [.bool (!(getF (s.drop at')).2.2)]) rfl rfl hg2 (by simp) (fin _)

theorem f99_ok {bv : AV} {w : Bool} {s : List UInt8} {at' : Nat} (h : KW H G C) (hc : C p = some (.var [bv, .int .i64 (at' : Int), .bool w])) (hp : H.length ≤ p) (hb : Bs B H bv s) (hcap : capOK bv) (hat : at' ≤ s.length) (hs : s.length ≤ 1000000)
    (hq : ∀ t : List UInt8, EdK H C p bv s fun G' => Q (.str t) G') : Cl B 99 [pt p] G Q := by
  have hg := h.cs p _ hc
  obtain ⟨k3, _⟩ := textF_ok (s.drop at')
  rw [List.length_drop] at k3
  refine f99_in fun n cl hn hcl hH hA => J99_3_in (op_nil (op_fldP ?_))
  subst hcl
  rw [peekV hg (v := bv) rfl, ob_some]
  have hbG := h.bs hb
  refine Sl.live hbG _ (op_nil (op_fldP ?_))
  rw [peekV hg (v := .int .i64 (at' : Int)) rfl, ob_some, pInt_int]
  obtain ⟨v', s1, s2, s3⟩ := bs_drop hbG hcap hat
  refine op_sl2 hbG.len s1 ?_
  refine f80_ok s2 s3 (by rw [List.length_drop]; omega) (live_tuple (op_extS rfl (op_extI rfl ?_)))
  refine op_extB (b := (textF (s.drop at')).2.2) rfl (J99_2_in (op_nil (op_fldP ?_)))
  rw [peekV hg (v := .int .i64 (at' : Int)) rfl, ob_some, pInt_int, pInt_int]
  refine op_nil (op_fldP ?_)
  rw [w64 (by omega)]
  have ea : (at' : Int) + ((textF (s.drop at')).2.1 : Int) = ((at' + (textF (s.drop at')).2.1 : Nat) : Int) := by omega
  rw [ea]
  refine op_st (c := [bv, .int .i64 (at' : Int), .bool w]) (vs := [.int .i64 ((at' + (textF (s.drop at')).2.1 : Nat) : Int)]) rfl rfl hg (by simp) (J99_1_in ?_)
  have h2 := h.set hc hp (.var [bv, .int .i64 ((at' + (textF (s.drop at')).2.1 : Nat) : Int), .bool w])
  have hg2 := h2.cs p _ updC_at
  rw [show putAt [bv, .int .i64 (at' : Int), .bool w] (0 + 1) [.int .i64 ((at' + (textF (s.drop at')).2.1 : Nat) : Int)] = [bv, .int .i64 ((at' + (textF (s.drop at')).2.1 : Nat) : Int), .bool w] from rfl]
  refine op_nil (op_fldP ?_)
  rw [peekV hg2 (v := .bool w) rfl, ob_some, pBool_bool]
  have fin : ∀ b : Bool, J99_0 B (Cl B) n (.str (textF (s.drop at')).1) ((G.set p (.var [bv, .int .i64 ((at' + (textF (s.drop at')).2.1 : Nat) : Int), .bool w])).set p (.var [bv, .int .i64 ((at' + (textF (s.drop at')).2.1 : Nat) : Int), .bool b])) Q := fun b => by
    refine J99_0_in (tidy_none ?_)
    have h3 := h2.set updC_at hp (.var [bv, .int .i64 ((at' + (textF (s.drop at')).2.1 : Nat) : Int), .bool b])
    exact hq _ _ _ _ b h3 Keeps1.refl.upd.upd updC_at (by omega)
  refine bs_iff.2 ⟨fun _ => op_nil (op_fldP ?_), fun _ => op_notB (op_nil (op_fldP ?_))⟩
  · exact op_st (c := [bv, .int .i64 ((at' + (textF (s.drop at')).2.1 : Nat) : Int), .bool w]) (vs := [.bool true]) rfl rfl hg2 (by simp) (fin true)
  · exact op_st (c := [bv, .int .i64 ((at' + (textF (s.drop at')).2.1 : Nat) : Int), .bool w]) (vs := [.bool (!(textF (s.drop at')).2.2)]) rfl rfl hg2 (by simp) (fin _)

end
end Go.Am

/- The package entry's Parse: some entry, and how far. -/
namespace Go.Am
open Go

def zrow : List AV := [.str [], .str [], .bool false, .int .i64 0]
def zent : Ent := ⟨[], [], false, 0⟩

section
variable {B : Base} {n : Nat} {H G : Heap} {C : Nat → Option AObj} {Q : AV → Heap → Prop} {p N : Nat}

theorem int_u {v : Int} {K : Int → Prop} (h : K v) : pInt .u64 (.int .u64 v) K := by rw [pInt_int]; exact h
theorem str_u {v : List UInt8} {K : List UInt8 → Prop} (h : K v) : pStr (.str v) K := by rw [pStr_str]; exact h
/-- What is asked behind Parse. -/
def PaQ (H : Heap) (s : List UInt8) (Q : AV → Heap → Prop) : Prop := ∀ (e : Ent) (m : Nat) (err : Int) L, m ≤ s.length → (err = 0 ∨ err = 2) → Q (.tuple [.agg e.row, .int .i64 (m : Int), .int .i64 err]) (H ++ L)

theorem pa_bad {x2 : Nat} {c2 : List AV} (h : KW H G C) (h2 : C x2 = some (.var c2)) (hl : c2.length = 4) (hH : H.length ≤ x2) {s : List UInt8} (hq : PaQ H s Q) :
    ob (layParts [(.str []), (.str []), (.bool false), (.int .i64 0)] []) fun c9 => (aop B E0 G (fun v10 H11 => ob (peekN B H11 4 (pt x2)) fun c12 => tidyK n Q (.tuple [.agg c12, .int .i64 (0), .int .i64 (2)]) H11) (.st 4 (.const (pt x2)) (.const (.agg c9)))) := by
  rw [show layParts [(.str []), (.str []), (.bool false), (.int .i64 0)] [] = some zent.row from rfl, ob_some]
  refine op_st (c := c2) (vs := zent.row) rfl rfl (h.cs x2 _ h2) (by omega) ?_
  have h3 := h.set h2 hH (.var zent.row)
  rw [putAt_all (by rw [hl]; rfl), show peekN B (G.set x2 (.var zent.row)) 4 (pt x2) = some zent.row from peekVN (h3.cs x2 _ updC_at) rfl, ob_some]
  obtain ⟨L, hL⟩ := h3.pre
  refine tidy_none ?_
  rw [hL]
  exact hq zent 0 2 L (Nat.zero_le _) (.inr rfl)

theorem pa_main {x0 : AV} {s : List UInt8} {x2 : Nat} {G1 : Heap} {C1 : Nat → Option AObj} (hb : Bs B H x0 s) (hcap : capOK x0) (hs : s.length ≤ 1000000) (k1 : KW H G1 C1) (c2 : C1 x2 = some (.var zrow)) (hx2l : H.length ≤ x2) (hq : PaQ H s Q) : J78_8 B (Cl B) n x0 (pt x2) G1 Q := by
  refine J78_8_in ?_
  have bad : J78_0 B (Cl B) n x0 (pt x2) (.bool true) G1 Q := by
    refine J78_0_in ?_
    rw [pBool_bool, if_pos rfl]
    exact pa_bad k1 c2 rfl hx2l hq
  have hbG := k1.bs hb
  rw [hb.len, ob_some]
  cases s with
  | nil => exact bs_yes rfl bad
  | cons c0 rest =>
    refine bs_no (by simp; omega) ?_
    have hi0 : ((0 : Nat) : Int) = 0 := rfl
    refine (op_idxB (i := 0) (c := c0) hbG rfl fun hpk => ?_ : aop B E0 G1 _ (.indexPtr 1 (.const x0) (.const (.int .i64 ((0 : Nat) : Int)))))
    rw [hpk, ob_some, pInt_int]
    refine ib_gt (J78_0_in ?_)
    rw [pBool_bool]
    split
    · exact pa_bad k1 c2 rfl hx2l hq
    refine J78_7_in ?_
    rw [show layParts [.nils, (.int .i64 0), (.bool false)] [(0, 1, x0), (1, 1, .int .i64 (1))] = some [x0, .int .i64 1, .bool false] from by simp only [layParts, bs_cells hb]; rfl, ob_some]
    refine op_box rfl rfl ?_
    have k2 := k1.add (.var [x0, .int .i64 ((1 : Nat) : Int), .bool false])
    have hfree : C1 G1.length = none := by
      cases e : C1 G1.length with
      | none => rfl
      | some o => have := k1.lt e; omega
    have hx2G := k1.lt c2
    have c2' : updC C1 G1.length (.var [x0, .int .i64 ((1 : Nat) : Int), .bool false]) x2 = some (.var zrow) := by rw [updC_ne (by omega)]; exact c2
    have hHG : H.length ≤ G1.length := by omega
    show J78_6 B (Cl B) n x0 (pt x2) (pt G1.length) (G1 ++ [.var [x0, .int .i64 ((1 : Nat) : Int), .bool false]]) Q
    have c5 : updC C1 G1.length (.var [x0, .int .i64 ((1 : Nat) : Int), .bool false]) G1.length = some (.var [x0, .int .i64 ((1 : Nat) : Int), .bool false]) := updC_at
    generalize updC C1 G1.length (.var [x0, .int .i64 ((1 : Nat) : Int), .bool false]) = C2 at k2 c2' c5
    generalize hx5 : G1.length = x5 at *
    generalize G1 ++ [AObj.var [x0, .int .i64 ((1 : Nat) : Int), .bool false]] = G2 at k2 ⊢
    have hne : x2 ≠ x5 := by omega
    refine J78_6_in (f98_ok k2 c5 (by omega) hb hcap (by simp) hs fun v hv0 hv1 G3 C3 a3 w3 k3 e3 c53 ha3 => ?_)
    have c23 := e3 x2 _ hne c2'
    refine int_u ?_
    have hb3 := k3.bs hb
    refine J78_5_in ((op_idxB (i := 0) (c := c0) hb3 rfl fun hpk3 => ?_ : aop B E0 G3 _ (.indexPtr 1 (.const x0) (.const (.int .i64 ((0 : Nat) : Int))))))
    rw [hpk3, ob_some, pInt_int]
    refine ib_eq (f99_ok k3 c53 (by omega) hb hcap ha3 hs fun t G4 C4 a4 w4 k4 e4 c54 ha4 => ?_)
    have c24 := e4 x2 _ hne c23
    have hb4 := k4.bs hb
    refine str_u ?_
    refine ⟨rfl, rfl, rfl, ib_eq rfl, ?_, (op_idxB (i := 0) (c := c0) hb4 rfl fun _ => rfl : aop B E0 G4 _ (.indexPtr 1 (.const x0) (.const (.int .i64 ((0 : Nat) : Int))))), rfl, ?_⟩
    · have hpk4 : peek B G4 (ept 1 x0 0) = some (.int .u8 (c0.toNat : Int)) := by
        have hr : ((c0 :: rest).map brw)[0]? = some (brw c0) := rfl
        exact ((bs_rows hb4).el hr).peek0 rfl
      rw [hpk4, ob_some, pInt_int]
    -- the entry so far
    generalize hw : IntKind.i64.wrap (minInts v [1099511627777]) = sq
    generalize hdl : decide ((c0.toNat : Int) = 1) = dl
    rw [show layParts [(.str []), (.str []), (.bool false), (.int .i64 0)] [(0, 1, .str t), (2, 1, .bool dl), (3, 1, .int .i64 sq)] = some (Ent.row ⟨t, [], dl, sq⟩) from rfl, ob_some]
    refine op_alloc (op_st_last rfl rfl (J78_4_in ?_))
    have k5 := k4.add (.var (Ent.row ⟨t, [], dl, sq⟩))
    have hx2G4 := k4.lt c24
    have hx5G4 := k4.lt c54
    have hH4 : H.length ≤ G4.length := by omega
    have c25 : updC C4 G4.length (.var (Ent.row ⟨t, [], dl, sq⟩)) x2 = some (.var zrow) := by rw [updC_ne (by omega)]; exact c24
    have c55 : updC C4 G4.length (.var (Ent.row ⟨t, [], dl, sq⟩)) x5 = some (.var [x0, .int .i64 (a4 : Int), .bool w4]) := by rw [updC_ne (by omega)]; exact c54
    have c75 : updC C4 G4.length (.var (Ent.row ⟨t, [], dl, sq⟩)) G4.length = some (.var (Ent.row ⟨t, [], dl, sq⟩)) := updC_at
    change aop B E0 (G4 ++ [.var (Ent.row ⟨t, [], dl, sq⟩)]) _ (.fieldPtr 2 (.const (pt G4.length)))
    generalize updC C4 G4.length (.var (Ent.row ⟨t, [], dl, sq⟩)) = C5 at k5 c25 c55 c75
    generalize hx7 : G4.length = x7 at *
    generalize G4 ++ [AObj.var (Ent.row ⟨t, [], dl, sq⟩)] = G5 at k5 ⊢
    -- the end
    have fin : ∀ (e : Ent) (G : Heap) (C : Nat → Option AObj) (a : Nat) (w : Bool), KW H G C → C x2 = some (.var zrow) → C x5 = some (.var [x0, .int .i64 (a : Int), .bool w]) → C x7 = some (.var e.row) → a ≤ (c0 :: rest).length → J78_3 B (Cl B) n (pt x2) (pt x5) (pt x7) G Q := fun e G C a w k d2 d5 d7 ha => by
      have badG : J78_1 B (Cl B) n (pt x2) (pt x5) (pt x7) (.bool true) G Q := by
        refine J78_1_in ?_
        rw [pBool_bool, if_pos rfl]
        exact pa_bad k d2 rfl hx2l hq
      refine J78_3_in (op_nil (op_fldP ?_))
      rw [peekV (k.cs x5 _ d5) (v := .bool w) rfl, ob_some, pBool_bool]
      refine bs_iff.2 ⟨fun _ => badG, fun _ => ?_⟩
      rw [show peekN B G 4 (pt x7) = some e.row from peekVN (k.cs x7 _ d7) rfl, ob_some]
      refine f59_ok (tyK_bool (op_notB ?_))
      cases hr : entR e with
      | false => exact badG
      | true =>
        refine J78_1_in ?_
        rw [pBool_bool, if_neg (by decide)]
        refine J78_2_in ?_
        rw [show peekN B G 4 (pt x7) = some e.row from peekVN (k.cs x7 _ d7) rfl, ob_some]
        refine op_nil (op_fldP ?_)
        rw [peekV (k.cs x5 _ d5) (v := .int .i64 (a : Int)) rfl, ob_some, pInt_int]
        refine op_st (c := zrow) (vs := e.row) rfl rfl (k.cs x2 _ d2) (by simp [zrow, Ent.row]) ?_
        have k' := k.set d2 hx2l (.var e.row)
        have d5' : updC C x2 (.var e.row) x5 = some (.var [x0, .int .i64 (a : Int), .bool w]) := by rw [updC_ne (Ne.symm hne)]; exact d5
        rw [putAt_all (show zrow.length = e.row.length from rfl)]
        refine ⟨?_, op_fldP rfl, op_nil rfl, rfl, ?_⟩
        · rw [peekV (k'.cs x5 _ d5') (v := .int .i64 (a : Int)) rfl, ob_some, pInt_int]
        rw [show peekN B (G.set x2 (.var e.row)) 4 (pt x2) = some e.row from peekVN (k'.cs x2 _ updC_at) rfl, ob_some]
        obtain ⟨L, hL⟩ := k'.pre
        refine tidy_none ?_
        rw [hL]
        exact hq e a 0 L ha (.inl rfl)
    refine op_fldP ?_
    rw [peekV (k5.cs x7 _ c75) (v := .bool dl) rfl, ob_some, pBool_bool]
    refine bs_iff.2 ⟨fun _ => fin _ G5 C5 a4 w4 k5 c25 c55 c75 ha4, fun _ => ?_⟩
    refine f99_ok k5 c55 (by omega) hb hcap ha4 hs fun t2 G6 C6 a6 w6 k6 e6 c56 ha6 => ?_
    refine str_u ?_
    have c76 := e6 x7 _ (by omega) c75
    have c26 := e6 x2 _ hne c25
    refine op_fldP ?_
    refine op_st (c := Ent.row ⟨t, [], dl, sq⟩) (vs := [.str t2]) rfl rfl (k6.cs x7 _ c76) (by simp [Ent.row]) ?_
    have k7 := k6.set c76 (by omega) (.var (Ent.row ⟨t, t2, dl, sq⟩))
    refine fin ⟨t, t2, dl, sq⟩ _ _ a6 w6 k7 ?_ ?_ updC_at ha6
    · rw [updC_ne (by omega)]; exact c26
    · rw [updC_ne (by omega)]; exact c56

theorem f78_ok {x0 : AV} {s : List UInt8} (hb : Bs B H x0 s) (hcap : capOK x0) (hs : s.length ≤ 1000000) (hq : PaQ H s Q) : Cl B 78 [x0] H Q := by
  refine f78_in fun n cl hn hcl hH hA => op_alloc ?_
  subst hcl
  have k0 : KW H H (fun _ => none) := ⟨⟨[], (List.append_nil _).symm⟩, fun p o hp => by cases hp⟩
  exact pa_main hb hcap hs (k0.add (.var zrow)) updC_at (Nat.le_refl _) hq

end
end Go.Am

/- The wire's reader: an entry, entries; same. -/
namespace Go.Am
open Go

section
variable {B : Base} {n : Nat} {H G : Heap} {C : Nat → Option AObj} {Q : AV → Heap → Prop} {p N : Nat}

theorem int_i {v : Int} {K : Int → Prop} (h : K v) : pInt .i64 (.int .i64 v) K := by rw [pInt_int]; exact h
theorem live_agg' {l : List AV} {K : AV → Prop} (h : K (.agg l)) : pLive (.agg l) K := h
theorem op_extA {K : AV → Heap → Prop} {l : List AV} {i : Nat} {v : AV} (h : l[i]? = some v) (hk : K v G) : aop B E0 G K (.extract none i (.const (.tuple l))) := by
  simp only [aop, opK, Opd.look, ob_some, h]
  exact hk
theorem keeps_add {o : AObj} (h : KW H G C) : ∀ q o', C q = some o' → updC C G.length o q = some o' := fun q o' hc => by
  have := h.lt hc
  rw [updC_ne (by omega)]; exact hc

theorem f49_ok (h : KW H G C) (hr : Rdr B H C p N) (hNN : N ≤ 100000) (hq : ∀ e : Ent, RdK B H C p N fun G' => Q (.agg e.row) G') : Cl B 49 [pt p] G Q := by
  obtain ⟨bv, w, s, hc, hp, hb, hcap, hN⟩ := hr
  refine f49_in fun n cl hn hcl hH hA => op_alloc ?_
  subst hcl
  have k1 := h.add (.var zrow)
  have e1 := keeps_add (o := .var zrow) h
  have c1 : updC C G.length (.var zrow) G.length = some (.var zrow) := updC_at
  have hHG : H.length ≤ G.length := by obtain ⟨L, rfl⟩ := h.pre; rw [List.length_append]; omega
  -- behind the result's place
  have main : ∀ (x1 : Nat) (G1 : Heap) (C1 : Nat → Option AObj), KW H G1 C1 → (∀ q o, C q = some o → C1 q = some o) → C1 x1 = some (.var zrow) → H.length ≤ x1 → (∀ q o, C q = some o → q ≠ x1) →
      aop B E0 G1 (fun v3 _ => aop B E0 G1 (fun v4 _ => ob (peek B G1 v4) fun c5 => pLive c5 fun v6 => Cl B 78 [v6] G1 fun v7 H8 => pLive v7 fun v9 => (aop B E0 H8 (fun v10 _ => (aop B E0 H8 (fun v11 _ => (aop B E0 H8 (fun v12 _ => (aop B E0 H8 (fun v13 H14 => (aop B E0 H14 (fun v15 H16 => pInt .i64 (v12) fun n17 => ibinK .eql .i64 (n17) (0) fun v18 => Cl B 79 [pt p, v11, v18] H16 fun v19 H20 => tyK .bool v19 fun v21 => ob (peekN B H20 4 (v13)) fun c22 => (aop B E0 H20 (fun v23 H24 => ob (peekN B H24 4 (pt x1)) fun c25 => tidyK n Q (.agg c25) H24) (.st 4 (.const (pt x1)) (.const (.agg c22))))) (.st 4 (.const (v13)) (.const (v10))))) (.alloc [(.str []), (.str []), (.bool false), (.int .i64 0)]))) (.extract (some (.int .i64)) 2 (.const (v9))))) (.extract (some (.int .i64)) 1 (.const (v9))))) (.extract none 0 (.const (v9))))) (.fieldPtr 0 (.const v3))) (.nilCheck (.const (pt p))) := fun x1 G1 C1 k1 e1 c1 hx1 hx1f => by
    have hne : x1 ≠ p := (hx1f p _ hc).symm
    have d1 := e1 p _ hc
    have hg := k1.cs p _ d1
    refine op_nil (op_fldP ?_)
    rw [peekV hg (v := bv) rfl, ob_some]
    have hbG := k1.bs hb
    refine Sl.live hbG _ (f78_ok hbG hcap (by omega) fun e m err L hm herr => live_tuple (op_extA rfl (op_extI rfl (op_extI rfl ?_))))
    have k2 := k1.grow L
    generalize G1 ++ L = G2 at k2 ⊢
    refine op_alloc (op_st_last rfl rfl ?_)
    rw [pInt_int]
    have k3 := k2.add (.var e.row)
    have hx1G := k2.lt c1
    have hpG := k2.lt d1
    have d3 : updC C1 G2.length (.var e.row) p = some (.var [bv, .bool w]) := by rw [updC_ne (by omega)]; exact d1
    refine ib_eq (f79_ok k3 d3 hp hb hcap (fun _ => hm) hN fun G4 C4 k4 e4 r4 => tyK_bool ?_)
    have c34 : C4 G2.length = some (.var e.row) := e4 _ _ (by omega) updC_at
    have c14 : C4 x1 = some (.var zrow) := e4 _ _ hne (by rw [updC_ne (by omega)]; exact c1)
    rw [show peekN B G4 4 (.ptr (some (.new G2.length, 0))) = some e.row from peekVN (k4.cs _ _ c34) rfl, ob_some]
    refine op_st (c := zrow) (vs := e.row) rfl rfl (k4.cs x1 _ c14) (by simp [zrow, Ent.row]) ?_
    have k5 := k4.set c14 hx1 (.var e.row)
    rw [putAt_all (show zrow.length = e.row.length from rfl), show peekN B (G4.set x1 (.var e.row)) 4 (pt x1) = some e.row from peekVN (k5.cs x1 _ updC_at) rfl, ob_some]
    refine tidy_none (hq e _ _ k5 (fun q o hqp hcq => ?_) ?_)
    · have h1 := e1 q o hcq
      have h2 := k2.lt h1
      rw [updC_ne (hx1f q o hcq)]
      exact e4 q o hqp (by rw [updC_ne (by omega)]; exact h1)
    · obtain ⟨bv4, w4, s4, r1, r2, r3, r5, r6⟩ := r4
      exact ⟨bv4, w4, s4, by rw [updC_ne (Ne.symm hne)]; exact r1, r2, r3, r5, r6⟩
  exact main G.length (G ++ [.var zrow]) _ k1 e1 c1 hHG fun q o hcq => by have := h.lt hcq; omega

/-- Entries that are read. -/
theorem f48_ok (h : KW H G C) (hr : Rdr B H C p N) (hNN : N ≤ 100000) (hq : ∀ (v : AV) (es : List Ent) G' C', es.length ≤ 32 → KW H G' C' → Keeps1 C C' p → Rdr B H C' p N → GrC H C' 4 v (es.map Ent.row) → Q v G') : Cl B 48 [pt p, .int .i64 ((32 : Nat) : Int), .func (.func 49) [pt p] []] G Q := by
  have hbig : maxBytes = 140737488355328 := rfl
  refine f48_in fun n cl hn hcl hH hA => ?_
  subst hcl
  refine f51_ok (most := 32) h hr (by decide) fun m hm G1 C1 k1 e1 r1 => ?_
  refine int_i ?_
  have go : ∀ (f i : Nat) (G : Heap) (C' : Nat → Option AObj) (v : AV) (es : List Ent), i + f = m → es.length = i → KW H G C' → Keeps1 C C' p → Rdr B H C' p N → GrC H C' 4 v (es.map Ent.row) → (∀ j, at? v = some j → C j = none) → L48_0 B (Cl B) n (pt p) (.func (.func 49) [pt p] []) v (m : Int) (i : Int) G Q := by
    intro f
    induction f with
    | zero =>
      intro i G C' v es hi hl k e r hg hfv
      refine L48_0_in (ACall.cle B table) (bs_no (decide_eq_false (by omega)) (J48_1_in (tidy_none (hq v es G C' (by omega) k e r hg))))
    | succ f ih =>
      intro i G C' v es hi hl k e r hg hfv
      obtain ⟨bv, w, s, hc, hp, hb, hcap, hN⟩ := r
      refine L48_0_in (ACall.cle B table) (bs_yes (decide_eq_true (by omega)) (op_nil (op_fldP ?_)))
      rw [peekV (k.cs p _ hc) (v := .bool w) rfl, ob_some, pBool_bool]
      refine bs_iff.2 ⟨fun _ => tidy_none (hq .nils [] G C' (Nat.zero_le _) k e ⟨bv, w, s, hc, hp, hb, hcap, hN⟩ ⟨fun r hr => by simp at hr, .inl ⟨rfl, rfl⟩⟩), fun _ => calleeK_val ?_⟩
      have hap : at? v ≠ some p := fun ea => by
        obtain ⟨_, ⟨rfl, _⟩ | ⟨j, rfl, _, hj⟩⟩ := hg
        · cases ea
        · cases ea; rw [hc] at hj; cases hj
      refine f49_ok k ⟨bv, w, s, hc, hp, hb, hcap, hN⟩ hNN fun en G2 C2 k2 e2 r2 => live_agg' ?_
      rw [show layParts [(.str []), (.str []), (.bool false), (.int .i64 0)] [(0, 4, .agg en.row)] = some en.row from lay_row (n := 4) rfl rfl, ob_some]
      refine slK_in ?_
      have hg2 : GrC H C2 4 v (es.map Ent.row) := by
        obtain ⟨h0, h1 | ⟨j, rfl, h2, h3⟩⟩ := hg
        · exact ⟨h0, .inl h1⟩
        · exact ⟨h0, .inr ⟨j, rfl, h2, e2 j _ (fun ej => hap (by rw [ej]; rfl)) h3⟩⟩
      have hu : Sl B (G2 ++ [.arr en.row]) 4 (.slice (.new G2.length) 0 1 4 (some 1)) [en.row] := sl_row1 rfl
      refine op_appKW (k2.grow [.arr en.row]) hg2 hu (by simp) (by rw [List.length_map]; simp only [List.length_singleton]; omega) fun v' G3 C3 k3 g3 a3 b3 l3 => ?_
      rw [w64 (by omega)]
      have e3 : Keeps1 C C3 p := fun q o hqp hcq => by
        have h1 := e2 q o hqp (e q o hqp hcq)
        exact b3 q o h1 fun ea => by have := hfv q ea; rw [hcq] at this; cases this
      have hat : ∀ q c, C2 q = some (.var c) → C3 q = some (.var c) := fun q c hcq => b3 q _ hcq fun ea => by
        obtain ⟨_, ⟨rfl, _⟩ | ⟨j, rfl, _, hj⟩⟩ := hg2
        · cases ea
        · cases ea; rw [hcq] at hj; cases hj
      have r3 : Rdr B H C3 p N := by
        obtain ⟨bv2, w2, s2, x1, x2, x3, x4, x5⟩ := r2
        exact ⟨bv2, w2, s2, hat _ _ x1, x2, x3, x4, x5⟩
      have hgr : GrC H C3 4 v' ((es ++ [en]).map Ent.row) := by rw [List.map_append]; exact g3
      refine ih (i + 1) G3 C3 v' (es ++ [en]) (by omega) (by rw [List.length_append, hl]; rfl) k3 e3 r3 hgr fun j hj => ?_
      cases hcj : C j with
      | none => rfl
      | some o =>
        have hle := a3 j hj
        rw [List.length_append] at hle
        have hjp : j ≠ p := fun ejp => by
          obtain ⟨_, _, _, x1, _⟩ := r2
          have := k2.lt x1
          omega
        have := k2.lt (e2 j o hjp (e j o hjp hcj))
        omega
  exact go m 0 G1 C1 .nils [] (Nat.zero_add _) rfl k1 e1 r1 ⟨fun r hr => by simp at hr, .inl ⟨rfl, rfl⟩⟩ fun j hj => by cases hj

/-- Are bytes the same? -/
theorem f82_ok {x y : AV} {s t : List UInt8} (hx : Bs B G x s) (hy : Bs B G y t) (hq : Q (.bool (s == t)) G) : Cl B 82 [x, y] G Q := by
  refine f82_in fun n cl hn hcl hH hA => op_toStr hx (op_toStr hy ?_)
  rw [pStr_str, pStr_str]
  exact (show sbinK .eql s t _ from bool_split (K := fun v => tidyK n Q v G) (tidy_none hq))
theorem f52_ok {x y : AV} {s t : List UInt8} {e : Int} (hx : Bs B G x s) (hy : Bs B G y t) (hq : Q (.bool (decide (e = 0) && s == t)) G) : Cl B 52 [x, .int .i64 e, y] G Q := by
  refine f52_in fun n cl hn hcl hH hA => int_i ?_
  subst hcl
  by_cases he : e = 0
  · refine bs_yes (by simp [he]) (f82_ok hx hy (tyK_bool (tidy_none ?_)))
    rw [decide_eq_true he, Bool.true_and] at hq; exact hq
  · refine bs_no (by simp [he]) (tidy_none ?_)
    rw [decide_eq_false he, Bool.false_and] at hq; exact hq

end
end Go.Am

/- AskOf: a request is told just by its own bytes. -/
namespace Go.Am
open Go

def zq : List AV := [.int .i64 0, .nils, .str [], .str [], .str [], .int .i64 0]
def AskQ (B : Base) (H : Heap) (s : List UInt8) (Q : AV → Heap → Prop) : Prop :=
  (∀ L, Q (.tuple [.agg zq, .int .i64 2]) (H ++ L)) ∧ ∀ (r : Rq) (ev : AV) L, Sl B (H ++ L) 4 ev (r.ents.map Ent.row) → akW r = false → akF r = s → Q (.tuple [.agg (r.row ev), .int .i64 0]) (H ++ L)

section
variable {B : Base} {n : Nat} {H G : Heap} {C : Nat → Option AObj} {Q : AV → Heap → Prop} {p N x2 x5 : Nat} {s : List UInt8} {b : AV}

theorem grc_sl {es : Nat} {v : AV} {rows : List (List AV)} (h : KW H G C) (hg : GrC H C es v rows) : Sl B G es v rows := by
  obtain ⟨h0, h1 | ⟨j, rfl, h2, h3⟩⟩ := hg
  · exact ⟨h0, .inl h1⟩
  · exact ⟨h0, .inr ⟨_, _, _, rfl, cellsAt_iff'.2 ⟨rows.flatten, by simp only [cellsOf, h.cs j _ h3], by rw [flatten_len h0]; omega, by rw [List.drop_zero, ← flatten_len h0, List.take_length]⟩⟩⟩
theorem grc_upd {es q : Nat} {v : AV} {rows : List (List AV)} {c : List AV} {o : AObj} (hg : GrC H C es v rows) (hq : C q = some (.var c)) : GrC H (updC C q o) es v rows := by
  obtain ⟨h0, h1 | ⟨j, rfl, h2, h3⟩⟩ := hg
  · exact ⟨h0, .inl h1⟩
  · exact ⟨h0, .inr ⟨j, rfl, h2, by rw [updC_ne (fun e => by subst e; rw [hq] at h3; cases h3)]; exact h3⟩⟩
theorem grc_keep {C' : Nat → Option AObj} {es q : Nat} {v : AV} {rows : List (List AV)} {c : List AV} (hg : GrC H C es v rows) (hq : C q = some (.var c)) (hk : Keeps1 C C' q) : GrC H C' es v rows := by
  obtain ⟨h0, h1 | ⟨j, rfl, h2, h3⟩⟩ := hg
  · exact ⟨h0, .inl h1⟩
  · exact ⟨h0, .inr ⟨j, rfl, h2, hk j _ (fun e => by subst e; rw [hq] at h3; cases h3) h3⟩⟩

theorem ask_bad (h : KW H G C) {c2 : List AV} (h2 : C x2 = some (.var c2)) (hl : c2.length = 6) (hH : H.length ≤ x2) (hq : AskQ B H s Q) :
    ob (layParts [(.int .i64 0), .nils, (.str []), (.str []), (.str []), (.int .i64 0)] []) fun c4 => (aop B E0 G (fun v5 H6 => ob (peekN B H6 6 (pt x2)) fun c7 => tidyK n Q (.tuple [.agg c7, .int .i64 (2)]) H6) (.st 6 (.const (pt x2)) (.const (.agg c4)))) := by
  rw [show layParts [(.int .i64 0), .nils, (.str []), (.str []), (.str []), (.int .i64 0)] [] = some zq from rfl, ob_some]
  refine op_st (c := c2) (vs := zq) rfl rfl (h.cs x2 _ h2) (by omega) ?_
  have h3 := h.set h2 hH (.var zq)
  rw [putAt_all (by rw [hl]; rfl), show peekN B (G.set x2 (.var zq)) 6 (pt x2) = some zq from peekVN (h3.cs x2 _ updC_at) rfl, ob_some]
  obtain ⟨L, hL⟩ := h3.pre
  refine tidy_none ?_
  rw [hL]
  exact hq.1 L

/-- All that the last step needs. -/
structure AskS (B : Base) (H G : Heap) (C : Nat → Option AObj) (x2 p x5 : Nat) (r : Rq) (ev : AV) (N : Nat) : Prop where
  kw : KW H G C
  c2 : C x2 = some (.var zq)
  c5 : C x5 = some (.var (r.row ev))
  rd : Rdr B H C p N
  gr : GrC H C 4 ev (r.ents.map Ent.row)
  h2 : H.length ≤ x2
  h5 : H.length ≤ x5
  n25 : x2 ≠ x5
  n2p : x2 ≠ p
  n5p : x5 ≠ p
  le : r.ents.length ≤ 50
  lk : r.key.length ≤ N
  ll : r.lo.length ≤ N
  lh : r.hi.length ≤ N
  lx : r.epoch ≤ 9223372036854775807

theorem ask_end {r : Rq} {ev : AV} (h : AskS B H G C x2 p x5 r ev N) (hN : N ≤ 8000) (hb : Bs B H b s) (hq : AskQ B H s Q) : J20_6 B (Cl B) n b (pt x2) (pt p) (pt x5) G Q := by
  have hk := h.kw
  obtain ⟨bv, w, s', r1, r2, r3, r4, r5⟩ := h.rd
  refine J20_6_in ?_
  rw [show peekN B G 6 (pt x5) = some (r.row ev) from peekVN (hk.cs x5 _ h.c5) rfl, ob_some]
  have hsl : Sl B G 4 ev (r.ents.map Ent.row) := grc_sl hk h.gr
  have hlk := h.lk
  have hll := h.ll
  have hlh := h.lh
  have fin : ∀ (v : AV) (e : Int) (L : List AObj) (t : List UInt8), Bs B (G ++ L) v t → (decide (e = 0) && t == s) = (decide (e = 0) && t == s) → ((decide (e = 0) && t == s) = true → akW r = false ∧ akF r = s) → J20_5 B (Cl B) n b (pt x2) (pt p) (pt x5) v (.int .i64 e) (G ++ L) Q := fun v e L t hv _ hgood => by
    have k2 := hk.grow L
    have d2 := h.c2
    have bad : J20_4 B (Cl B) n (pt x2) (pt x5) (.bool true) (G ++ L) Q := by
      refine J20_4_in ?_
      rw [pBool_bool, if_pos rfl]
      exact ask_bad k2 d2 rfl h.h2 hq
    refine J20_5_in (op_nil (op_fldP ?_))
    rw [peekV (k2.cs p _ r1) (v := .bool w) rfl, ob_some, pBool_bool]
    refine bs_iff.2 ⟨fun _ => bad, fun _ => ?_⟩
    refine f52_ok hv (k2.bs hb) (tyK_bool (op_notB ?_))
    cases hres : (decide (e = 0) && t == s) with
    | false => exact bad
    | true =>
      obtain ⟨g1, g2⟩ := hgood hres
      refine J20_4_in ?_
      rw [show (!true) = false from rfl, pBool_bool, if_neg (by decide)]
      rw [show peekN B (G ++ L) 6 (pt x5) = some (r.row ev) from peekVN (k2.cs x5 _ h.c5) rfl, ob_some]
      refine op_st (c := zq) (vs := r.row ev) rfl rfl (k2.cs x2 _ d2) (by simp [zq, Rq.row]) ?_
      have k3 := k2.set d2 h.h2 (.var (r.row ev))
      rw [putAt_all (show zq.length = (r.row ev).length from rfl), show peekN B ((G ++ L).set x2 (.var (r.row ev))) 6 (pt x2) = some (r.row ev) from peekVN (k3.cs x2 _ updC_at) rfl, ob_some]
      have hev : Sl B ((G ++ L).set x2 (.var (r.row ev))) 4 ev (r.ents.map Ent.row) := grc_sl k3 (grc_upd h.gr d2)
      obtain ⟨L', hL'⟩ := k3.pre
      refine tidy_none ?_
      rw [hL'] at hev ⊢
      exact hq.2 r ev L' hev g1 g2
  refine g13_ok hsl h.lx ⟨h.le, by omega, by omega, by omega⟩ (fun hw L => ?_) fun hw v L hv => ?_
  · exact op_ext2 (fun K hK => hK) (fin .nils 1 L [] Bs.nil rfl fun hx => by simp at hx)
  · refine op_ext2 (fun K hK => Sl.live hv K hK) (fin v 0 L (akF r) hv rfl fun hx => ⟨hw, ?_⟩)
    simpa using hx

/-- A field of the request is written. -/
theorem AskS.put {r r' : Rq} {ev ev' : AV} (h : AskS B H G C x2 p x5 r ev N) {off : Nat} {v : AV} (hp : putAt (r.row ev) (0 + off) [v] = r'.row ev') (hv : v.cells? = some [v]) (hoff : off < 6) (hg : GrC H C 4 ev' (r'.ents.map Ent.row)) (he : r'.ents.length ≤ 50) (hlk : r'.key.length ≤ N) (hll : r'.lo.length ≤ N) (hlh : r'.hi.length ≤ N) (hlx : r'.epoch ≤ 9223372036854775807)
    {K : AV → Heap → Prop} (hk : ∀ G' C', AskS B H G' C' x2 p x5 r' ev' N → K .dead G') : aop B E0 G (fun v42 _ => aop B E0 G K (.st 1 (.const v42) (.const v))) (.fieldPtr off (.const (pt x5))) := by
  refine op_fldP ?_
  refine op_st (c := r.row ev) (vs := [v]) hv rfl (h.kw.cs x5 _ h.c5) (by simp only [Rq.row, List.length_cons, List.length_nil]; omega) ?_
  rw [hp]
  obtain ⟨bv, w, s', r1, r2, r3, r4, r5⟩ := h.rd
  exact hk _ _ ⟨h.kw.set h.c5 h.h5 _, by rw [updC_ne h.n25]; exact h.c2, updC_at, ⟨bv, w, s', by rw [updC_ne (Ne.symm h.n5p)]; exact r1, r2, r3, r4, r5⟩, grc_upd hg h.c5, h.h2, h.h5, h.n25, h.n2p, h.n5p, he, hlk, hll, hlh, hlx⟩
/-- Behind a reading. -/
theorem AskS.read {r : Rq} {ev : AV} (h : AskS B H G C x2 p x5 r ev N) {G' : Heap} {C' : Nat → Option AObj} (k : KW H G' C') (e : Keeps1 C C' p) (rd : Rdr B H C' p N) : AskS B H G' C' x2 p x5 r ev N := by
  obtain ⟨bv, w, s', r1, _⟩ := h.rd
  exact ⟨k, e x2 _ h.n2p h.c2, e x5 _ h.n5p h.c5, rd, grc_keep h.gr r1 e, h.h2, h.h5, h.n25, h.n2p, h.n5p, h.le, h.lk, h.ll, h.lh, h.lx⟩

theorem ask_switch {kind : Int} (h : AskS B H G C x2 p x5 ⟨kind, [], [], [], [], 0⟩ .nils N) (hN : N ≤ 8000) (hb : Bs B H b s) (hq : AskQ B H s Q) : J20_3 B (Cl B) n b (pt x2) (pt p) (pt x5) kind G Q := by
  have fin : ∀ {r : Rq} {ev : AV} (G' : Heap) (C' : Nat → Option AObj), AskS B H G' C' x2 p x5 r ev N → J20_6 B (Cl B) n b (pt x2) (pt p) (pt x5) G' Q := fun G' C' h' => ask_end h' hN hb hq
  refine J20_3_in (ib_eq (J20_2_in ?_))
  rw [pBool_bool]
  split
  · refine f48_ok h.kw h.rd (by omega) fun v es G1 C1 hes k1 e1 r1 g1 => Sl.live (grc_sl (B := B) k1 g1) _ ?_
    have h1 := h.read k1 e1 r1
    exact h1.put (r' := ⟨kind, es, [], [], [], 0⟩) (ev' := v) rfl (by
      have := grc_sl (B := B) k1 g1
      obtain ⟨_, ⟨rfl, _⟩ | ⟨o, off, cap, rfl, _⟩⟩ := this <;> rfl) (by decide) g1 (by show es.length ≤ 50; omega) h1.lk h1.ll h1.lh h1.lx fun G' C' h' => fin G' C' h'
  refine ib_eq (J20_1_in ?_)
  rw [pBool_bool]
  split
  · refine f50_ok h.kw h.rd (by omega) fun t ht G1 C1 k1 e1 r1 => str_u ?_
    have h1 := h.read k1 e1 r1
    exact h1.put (r' := ⟨kind, [], t, [], [], 0⟩) (ev' := .nils) rfl rfl (by decide) h1.gr h1.le ht h1.ll h1.lh h1.lx fun G' C' h' => fin G' C' h'
  refine bs_iff.2 ⟨fun _ => ?_, fun _ => ?_⟩
  · refine f50_ok h.kw h.rd (by omega) fun t ht G1 C1 k1 e1 r1 => str_u ?_
    have h1 := h.read k1 e1 r1
    refine h1.put (r' := ⟨kind, [], [], t, [], 0⟩) (ev' := .nils) rfl rfl (by decide) h1.gr h1.le h1.lk ht h1.lh h1.lx fun G2 C2 h2 => ?_
    refine f50_ok h2.kw h2.rd (by omega) fun t2 ht2 G3 C3 k3 e3 r3 => str_u ?_
    have h3 := h2.read k3 e3 r3
    exact h3.put (r' := ⟨kind, [], [], t, t2, 0⟩) (ev' := .nils) rfl rfl (by decide) h3.gr h3.le h3.lk h3.ll ht2 h3.lx fun G' C' h' => fin G' C' h'
  have num : ∀ d : Bool, J20_0 B (Cl B) n b (pt x2) (pt p) (pt x5) (.bool d) G Q := fun d => by
    refine J20_0_in ?_
    rw [pBool_bool]
    split
    · refine f51_ok (most := 1099511627776) h.kw h.rd (by decide) fun m hm G1 C1 k1 e1 r1 => int_i ?_
      have h1 := h.read k1 e1 r1
      exact h1.put (r' := ⟨kind, [], [], [], [], (m : Int)⟩) (ev' := .nils) rfl rfl (by decide) h1.gr h1.le h1.lk h1.ll h1.lh (by show (m : Int) ≤ 9223372036854775807; omega) fun G' C' h' => fin G' C' h'
    · exact fin G C h
  exact bs_iff.2 ⟨fun _ => num true, fun _ => ib_eq (num _)⟩

theorem ask_mid {c0 : UInt8} {rest : List UInt8} {v8 : AV} (hb : Bs B H b (c0 :: rest)) (hs : (c0 :: rest).length ≤ 8000) (k2 : KW H G C) (c22 : C x2 = some (.var zq)) (c42 : C p = some (.var [v8, .bool false])) (hx2l : H.length ≤ x2) (hpl : H.length ≤ p) (hne : x2 ≠ p) (s2 : Bs B H v8 rest) (s3 : capOK v8) (hq : AskQ B H (c0 :: rest) Q) : J20_8 B (Cl B) n b (pt x2) (pt p) G Q := by
  have hb2 := k2.bs hb
  refine J20_8_in ((op_idxB (i := 0) (c := c0) hb2 rfl fun hpk => ?_ : aop B E0 G _ (.indexPtr 1 (.const b) (.const (.int .i64 ((0 : Nat) : Int))))))
  have hc0 : c0.toNat < 256 := c0.toNat_lt
  rw [hpk, ob_some, pInt_int, w64 (by omega)]
  rw [show layParts [(.int .i64 0), .nils, (.str []), (.str []), (.str []), (.int .i64 0)] [(0, 1, .int .i64 (c0.toNat : Int))] = some (Rq.row ⟨(c0.toNat : Int), [], [], [], [], 0⟩ .nils) from rfl, ob_some]
  refine op_alloc (op_st_last rfl rfl ?_)
  have k3 := k2.add (.var (Rq.row ⟨(c0.toNat : Int), [], [], [], [], 0⟩ .nils))
  have hpG := k2.lt c42
  have hx2G := k2.lt c22
  have hl2 : rest.length ≤ 8000 := by rw [List.length_cons] at hs; omega
  have hS : AskS B H (G ++ [.var (Rq.row ⟨(c0.toNat : Int), [], [], [], [], 0⟩ .nils)]) _ x2 p G.length ⟨(c0.toNat : Int), [], [], [], [], 0⟩ .nils 8000 :=
    ⟨k3, by rw [updC_ne (by omega)]; exact c22, updC_at, ⟨v8, false, rest, by rw [updC_ne (by omega)]; exact c42, hpl, s2, s3, hl2⟩, ⟨fun r hr => by simp at hr, .inl ⟨rfl, rfl⟩⟩, hx2l, by omega, by omega, hne, by omega, by simp, by simp, by simp, by simp, by simp⟩
  refine J20_7_in (op_fldP ?_)
  rw [peekV (hS.kw.cs _ _ hS.c5) (v := .int .i64 (c0.toNat : Int)) rfl, ob_some, pInt_int]
  exact ask_switch hS (Nat.le_refl _) hb hq

theorem ask_main (hb : Bs B H b s) (hcap : capOK b) (hs : s.length ≤ 8000) (k1 : KW H G C) (c2 : C x2 = some (.var zq)) (hx2l : H.length ≤ x2) (hq : AskQ B H s Q) : J20_10 B (Cl B) n b (pt x2) G Q := by
  refine J20_10_in ?_
  rw [hb.len, ob_some]
  cases s with
  | nil => exact bs_yes rfl (ask_bad k1 c2 rfl hx2l hq)
  | cons c0 rest =>
    refine bs_no (by simp; omega) (J20_9_in ?_)
    obtain ⟨v8, s1, s2, s3⟩ := bs_drop hb hcap (m := 1) (by simp)
    refine op_sl2 hb.len s1 ?_
    rw [show layParts [.nils, (.bool false)] [(0, 1, v8)] = some [v8, .bool false] from by simp only [layParts, bs_cells s2]; rfl, ob_some]
    refine op_box rfl rfl ?_
    have hx2G := k1.lt c2
    have hHG : H.length ≤ G.length := by omega
    have hne : x2 ≠ G.length := by omega
    exact ask_mid hb hs (k1.add (.var [v8, .bool false])) (by rw [updC_ne hne]; exact c2) updC_at hx2l hHG hne s2 s3 hq

theorem f20_ok (hb : Bs B H b s) (hcap : capOK b) (hs : s.length ≤ 8000) (hq : AskQ B H s Q) : Cl B 20 [b] H Q := by
  refine f20_in fun n cl hn hcl hH hA => op_alloc ?_
  subst hcl
  have k0 : KW H H (fun _ => none) := ⟨⟨[], (List.append_nil _).symm⟩, fun p o hp => by cases hp⟩
  exact ask_main hb hcap hs (k0.add (.var zq)) updC_at (Nat.le_refl _) hq

end
end Go.Am

/- The law WireKinds: it holds. -/
namespace Go.Am
open Go

theorem ask_kind {r : Rq} (h : akW r = false) : 1 ≤ r.kind ∧ r.kind ≤ 6 := by
  have h0 : v0 r = false := by
    unfold akW at h
    cases e : v0 r with
    | false => rfl
    | true => rw [e] at h; simp at h
  unfold v0 at h0
  simp at h0
  exact h0
theorem ask_first {r : Rq} {c : UInt8} {rest : List UInt8} (h : akW r = false) (hf : akF r = c :: rest) : r.kind = (c.toNat : Int) := by
  obtain ⟨h1, h2⟩ := ask_kind h
  unfold akF at hf
  rw [List.singleton_append] at hf
  injection hf with hc _
  rw [← hc]
  unfold fb
  have e : IntKind.u8.wrap r.kind = r.kind := IntWalk.u8_in _ (by omega)
  rw [e, UInt8.toNat_ofNat_of_lt' (by show _ < 256; omega)]
  omega
theorem akF_ne (r : Rq) : akF r ≠ [] := by unfold akF; simp
theorem wV_congr' {q es : Nat} {r1 r2 : List (List AV)} (h : r1.length = r2.length) : wV q es r1 = wV q es r2 := by
  unfold wV
  by_cases h1 : r1 = []
  · subst h1
    have : r2 = [] := List.length_eq_zero_iff.1 h.symm
    subst this; rfl
  · rw [if_neg h1, if_neg (fun e => h1 (List.length_eq_zero_iff.1 (by rw [h, e]; rfl))), h]
theorem wV_cap {q es : Nat} {rows : List (List AV)} : capOK (wV q es rows) := fun o off len es c e => by
  unfold wV at e
  split at e
  · cases e; exact Nat.zero_le _
  · cases e

section
variable {B : Base} {n : Nat} {H G : Heap} {C : Nat → Option AObj} {Q : AV → Heap → Prop}

theorem kinds_second {k' : Nat} {c0 c : UInt8} {rest : List UInt8} {x6 : Nat} {rr : List AV} {M : Heap} (hg : M[k']? = some (.arr (((c0 :: rest).map brw)).flatten)) (h6 : M[x6]? = some (.var (.int .i64 (c0.toNat : Int) :: rr))) (h1 : 1 ≤ (c0.toNat : Int) ∧ (c0.toNat : Int) ≤ 6) (hs : (c0 :: rest).length ≤ 2000) (hq : ∀ G, Q (.bool true) G) :
    J5_3 B (Cl B) n (wV k' 1 ((c0 :: rest).map brw)) (c.toNat : Int) (.bool true) (pt x6) M Q := by
  have hb : Bs B M (wV k' 1 ((c0 :: rest).map brw)) (c0 :: rest) := wV_sl hg (brws_len _)
  have hne : x6 ≠ k' := fun e => by subst e; rw [h6] at hg; cases hg
  refine J5_3_in ((op_idxB (i := 0) (c := c0) hb rfl fun hpk => ?_ : aop B E0 M _ (.indexPtr 1 (.const (wV k' 1 ((c0 :: rest).map brw))) (.const (.int .i64 ((0 : Nat) : Int))))))
  rw [hpk, ob_some, pInt_int]
  refine J5_2_in ((op_idxB (i := 0) (c := c0) hb rfl fun _ => ?_ : aop B E0 M _ (.indexPtr 1 (.const (wV k' 1 ((c0 :: rest).map brw))) (.const (.int .i64 ((0 : Nat) : Int))))))
  have hept : ept 1 (wV k' 1 ((c0 :: rest).map brw)) 0 = .ptr (some (.new k', 0)) := by unfold wV; split <;> simp [ept]
  rw [hept]
  refine op_st_arr (n := 1) (vs := [.int .u8 (c.toNat : Int)]) rfl rfl hg (by simp [brw]) ?_
  have hput : putAt ((c0 :: rest).map brw).flatten 0 [.int .u8 (c.toNat : Int)] = ((c :: rest).map brw).flatten := rfl
  rw [hput]
  have hg2 : (M.set k' (.arr ((c :: rest).map brw).flatten))[k']? = some (.arr ((c :: rest).map brw).flatten) := get_set (lt_of_get hg)
  have h62 : (M.set k' (.arr ((c :: rest).map brw).flatten))[x6]? = some (.var (.int .i64 (c0.toNat : Int) :: rr)) := by rw [get_set_ne (Ne.symm hne)]; exact h6
  have hb2 : Bs B (M.set k' (.arr ((c :: rest).map brw).flatten)) (wV k' 1 ((c0 :: rest).map brw)) (c :: rest) := by
    rw [wV_congr' (r1 := (c0 :: rest).map brw) (r2 := (c :: rest).map brw) (by simp)]
    exact wV_sl hg2 (brws_len _)
  generalize M.set k' (.arr ((c :: rest).map brw).flatten) = M2 at hg2 h62 hb2 ⊢
  -- the last test
  have fin : ∀ (G : Heap) (x9 : AV) (x10 : Int), G[x6]? = some (.var (.int .i64 (c0.toNat : Int) :: rr)) → (x10 = 2 ∨ x10 = 0 ∧ ∃ p r2, x9 = pt p ∧ G[p]? = some (.var (.int .i64 (c.toNat : Int) :: r2))) → J5_0 B (Cl B) n (c.toNat : Int) (.bool true) (pt x6) (c0.toNat : Int) x9 (.int .i64 x10) G Q := fun G x9 x10 g6 hor => by
    refine J5_0_in ?_
    have hc0 : c0.toNat < 256 := c0.toNat_lt
    have hc : c.toNat < 256 := c.toNat_lt
    rw [pGuard_bool, bs_true]
    refine op_fldP ?_
    rw [peekV g6 (v := .int .i64 (c0.toNat : Int)) rfl, ob_some, pInt_int, w64 (by omega)]
    refine bs_yes (by simp) (bs_yes (decide_eq_true (by omega)) (bs_yes (decide_eq_true (by omega)) ?_))
    rw [pInt_int]
    rcases hor with rfl | ⟨rfl, p, r2, rfl, hp⟩
    · exact bs_yes (by decide) (tidy_none (hq _))
    · refine bs_no (by decide) (op_fldP ?_)
      rw [peekV hp (v := .int .i64 (c.toNat : Int)) rfl, ob_some, pInt_int, w64 (by omega)]
      exact ib_eq_yes rfl (tidy_none (hq _))
  refine J5_1_in (f20_ok hb2 wV_cap (by simp only [List.length_cons] at hs ⊢; omega) ⟨fun L => live_tuple (op_extA rfl (op_extI rfl (op_alloc (op_st_last rfl rfl ?_)))), fun r2 ev L _ g1 g2 => live_tuple (op_extA rfl (op_extI rfl (op_alloc (op_st_last rfl rfl ?_))))⟩)
  · exact fin _ _ 2 (get_pre (get_pre h62)) (.inl rfl)
  · refine fin _ _ 0 (get_pre (get_pre h62)) (.inr ⟨rfl, (M2 ++ L).length, (r2.row ev).tail, rfl, ?_⟩)
    rw [get_app0]
    have := ask_first g1 g2
    show some (AObj.var (.int .i64 r2.kind :: (r2.row ev).tail)) = _
    rw [this]

theorem f5_ok {x0 : AV} {s : List UInt8} {c : UInt8} (hb : Bs B H x0 s) (hq : ∀ G, Q (.bool true) G) : Cl B 5 [x0, .int .u8 (c.toNat : Int)] H Q := by
  have hbig : maxBytes = 140737488355328 := rfl
  refine f5_in fun n cl hn hcl hH hA => J5_7_in ?_
  subst hcl
  refine f11_ok (tyK_bool (J5_6_in ?_))
  have hb1 : Bs B H x0 s := hb
  clear hb hn hH
  generalize H = H1 at hb1 ⊢
  rw [show layParts [] [] = some [] from rfl, ob_some]
  refine slK_in ?_
  have hb2 : Bs B (H1 ++ [.arr []]) x0 s := hb1.pre
  rw [hb1.len, ob_some]
  have em : minInts (s.length : Int) [(2000 : Int)] = ((min s.length 2000 : Nat) : Int) := by simp only [minInts]; split <;> omega
  rw [em]
  refine op_prefix (bs_rows hb2) rfl (by rw [List.length_map]; omega) fun v8 h8 _ => ?_
  have htk : (s.map brw).take (min s.length 2000) = (s.take 2000).map brw := by
    rw [List.map_take, Nat.min_comm, ← List.length_map (f := brw)]
    exact (List.take_eq_take_min ..).symm
  rw [htk] at h8
  have hl : (s.take 2000).length ≤ 2000 := by rw [List.length_take]; omega
  generalize s.take 2000 = t at h8 hl
  have g0 : (H1 ++ [AObj.arr []])[H1.length]? = some (.arr ([] : List (List AV)).flatten) := by rw [get_app0]; rfl
  refine op_appendN (rows1 := []) (rows2 := t.map brw) g0 (fun r hr => by cases hr) h8 (by rw [List.length_nil, List.length_map]; omega) fun k' o L hk hg => ?_
  rw [List.nil_append] at hg ⊢
  have e : (H1 ++ [AObj.arr []]).set H1.length o ++ L = H1 ++ (o :: L) := by rw [set_app0, List.append_assoc]; rfl
  rw [e] at hg ⊢
  generalize H1 ++ o :: L = M at hg ⊢
  have hbM : Bs B M (wV k' 1 (t.map brw)) t := wV_sl hg (brws_len _)
  refine J5_5_in (f20_ok hbM wV_cap (by omega) ⟨fun L => live_tuple (op_extA rfl (op_extI rfl (op_alloc (op_st_last rfl rfl (J5_4_in ?_))))), fun r ev L _ g1 g2 => live_tuple (op_extA rfl (op_extI rfl (op_alloc (op_st_last rfl rfl (J5_4_in ?_)))))⟩)
  · refine int_i (bs_yes (by decide) ?_)
    rw [pGuard_bool, bs_true]
    refine op_fldP ?_
    rw [peekV (c := zq) (by rw [get_app0]; rfl) (v := .int .i64 0) rfl, ob_some, pInt_int]
    exact ib_eq_yes rfl (tidy_none (hq _))
  · refine int_i (bs_no (by decide) ?_)
    cases t with
    | nil => exact absurd g2 (akF_ne r)
    | cons c0 rest =>
      have hkind := ask_first g1 g2
      have h16 := ask_kind g1
      rw [hkind] at h16
      refine kinds_second (rr := (r.row ev).tail) (get_pre (get_pre hg)) ?_ h16 hl hq
      rw [get_app0]
      show some (AObj.var (.int .i64 r.kind :: (r.row ev).tail)) = _
      rw [hkind]

end
end Go.Am

/- Bytes among the arguments. -/
namespace Go.Am
open Go Go.Proofs

theorem byte_of {u : AV} (h : avIs (.int .u8) u) : ∃ c : UInt8, u = .int .u8 (c.toNat : Int) := by
  obtain ⟨m, rfl, hw⟩ := h
  have : IntKind.u8.min ≤ m ∧ m ≤ IntKind.u8.max := by simpa [Lit.wf] using hw
  have e1 : IntKind.u8.max = 255 := by decide
  have e2 : IntKind.u8.min = 0 := by decide
  refine ⟨UInt8.ofNat m.toNat, ?_⟩
  rw [UInt8.toNat_ofNat_of_lt' (by show _ < 256; omega)]
  congr 1; omega
theorem bytes_of_rows : ∀ {rows : List (List AV)}, (∀ r, r ∈ rows → rowIs [.int .u8] r) → ∃ s : List UInt8, rows = s.map brw
  | [], _ => ⟨[], rfl⟩
  | r :: rs, h => by
    obtain ⟨s, hs⟩ := bytes_of_rows (rows := rs) fun x hx => h x (List.mem_cons_of_mem _ hx)
    obtain ⟨hlen, hg⟩ := h r (List.mem_cons_self ..)
    obtain ⟨u, g0, hu⟩ := hg 0 (.int .u8) rfl
    obtain ⟨c, rfl⟩ := byte_of hu
    match r, hlen, g0 with
    | [a], _, g0 =>
      simp at g0
      subst g0
      exact ⟨c :: s, by rw [hs]; rfl⟩
theorem kinds_byte : kinds Try.prog 6 5 = some [.int .u8] := by kernel_rfl
theorem cells_byte : Try.prog.cellsOf 5 = 1 := by kernel_rfl
theorem under_bytes : Try.prog.underlying 27 = some (.slice 5) := by kernel_rfl
theorem under_byte : Try.prog.underlying 5 = some (.int .u8) := by kernel_rfl

section
variable {X : Type} {enc : TypeId × Value → X} {W : World} {base : Nat}
set_option maxRecDepth 100000 in
theorem arg_bytes {v : Value} {d : DataW X} {p : List MemPlace} (hval : Value.okWide Try.prog W .any base 27 v) (hd : DataW.Trod enc Try.prog W 0 (fun _ => true) true 27 v d p) :
    ∃ (av : AV) (s : List UInt8), VR 0 plc0 av v ∧ Bs (baseOf W) [] av s := by
  obtain ⟨av, rows, h1, h2, h3⟩ := arg_slice under_bytes kinds_byte cells_byte (Nat.one_pos) hval hd
  obtain ⟨s, hs⟩ := bytes_of_rows h3
  rw [hs] at h2
  exact ⟨av, s, h1, h2⟩
end

end Go.Am
