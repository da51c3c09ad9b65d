/- The writer of the package wire, and the package codec: what they answer. -/
import Derived.Test.YtdkgdkifeedcnaaAmU
import Derived.Test.YtdkgdkifeedcnaaAg62
import Derived.Test.YtdkgdkifeedcnaaAg25
import Derived.Test.YtdkgdkifeedcnaaAg29
import Derived.Test.YtdkgdkifeedcnaaAg30
import Derived.Test.YtdkgdkifeedcnaaAg61
import Derived.Test.YtdkgdkifeedcnaaAg28
namespace Go.Am
open Go

/-! ### Put -/
def putF (x : Nat) : List UInt8 := if x < 128 then [UInt8.ofNat x] else UInt8.ofNat (x % 128 + 128) :: putF (x / 128)
termination_by x
decreasing_by omega

theorem or_byte : ∀ y : Fin 256, bitsOp .or IntKind.u8 ((y.val : Nat) : Int) 128 = ((y.val % 128 + 128 : Nat) : Int) := by decide +kernel
theorem put_byte (x : Nat) : bitsOp .or IntKind.u8 (IntKind.u8.wrap (x : Int)) 128 = (((UInt8.ofNat (x % 128 + 128)).toNat : Nat) : Int) := by
  have e : IntKind.u8.wrap (x : Int) = ((x % 256 : Nat) : Int) := by rw [IntKind.wrap_u8]; omega
  have := or_byte ⟨x % 256, by omega⟩
  simp only at this
  rw [e, this]
  have h1 : x % 256 % 128 = x % 128 := by omega
  rw [h1, UInt8.toNat_ofNat_of_lt' (by show _ < 256; omega)]
theorem last_byte {x : Nat} (h : x < 128) : IntKind.u8.wrap (x : Int) = (((UInt8.ofNat x).toNat : Nat) : Int) := by
  rw [IntWalk.u8_in _ (by omega), UInt8.toNat_ofNat_of_lt' (by show _ < 256; omega)]
theorem putF_ne (x : Nat) : putF x ≠ [] := by
  unfold putF; split <;> simp
theorem putF_len (x : Nat) : (putF x).length ≤ x + 1 := by
  unfold putF
  split
  · simp
  · have := putF_len (x / 128)
    simp only [List.length_cons]; omega
termination_by x
decreasing_by omega

section
variable {B : Base} {n : Nat} {H : Heap} {Q : AV → Heap → Prop}

theorem growV_ne {k es : Nat} {rows : List (List AV)} (h : rows ≠ []) : growV k es rows = .slice (.new k) 0 rows.length es none := if_neg h
theorem growO_ne {rows : List (List AV)} (h : rows ≠ []) : growO rows = .arr rows.flatten := if_neg h

/-- Bytes elsewhere stay, where an object that has none is written. -/
theorem Bs.set_var {k : Nat} {v : AV} {s : List UInt8} {c c' : List AV} (hb : Bs B H v s) (hg : H[k]? = some (.var c)) (hno : ∀ x ∈ c, ∀ m, x ≠ .int .u8 m) (hl : c'.length = c.length) : Bs B (H.set k (.var c')) v s := by
  obtain ⟨h0, h1 | ⟨o, off, cap, rfl, hc⟩⟩ := hb
  · exact ⟨h0, .inl h1⟩
  · refine ⟨h0, .inr ⟨o, off, cap, rfl, ?_⟩⟩
    obtain ⟨cs, h1, h2, h3⟩ := cellsAt_iff'.1 hc
    cases o with
    | base bb ss => exact cellsAt_iff'.2 ⟨cs, h1, h2, h3⟩
    | new j =>
      by_cases e : k = j
      · subst e
        simp only [cellsOf, hg] at h1
        cases h1
        refine cellsAt_iff'.2 ⟨c', by simp only [cellsOf, get_set (lt_of_get hg)], by rw [hl]; exact h2, ?_⟩
        cases s with
        | nil => simp
        | cons x r =>
          exfalso
          have hx : AV.int .u8 (x.toNat : Int) ∈ ((x :: r).map brw).flatten := by simp [brw]
          rw [h3] at hx
          exact hno _ (List.mem_of_mem_drop (List.mem_of_mem_take hx)) _ rfl
      · refine cellsAt_iff'.2 ⟨cs, ?_, h2, h3⟩
        simp only [cellsOf] at h1 ⊢
        rw [get_set_ne e]; exact h1
theorem Bs.not_int {v : AV} {s : List UInt8} (hb : Bs B H v s) (m : Int) : v ≠ .int .u8 m := by
  obtain ⟨_, ⟨rfl, _⟩ | ⟨o, off, cap, rfl, _⟩⟩ := hb <;> simp
theorem Bs.set_wr {k : Nat} {v b c : AV} {wr : Bool} {wr' : AV} {s t : List UInt8} (hb : Bs B H v s) (hb2 : Bs B H b t) (hg : H[k]? = some (.var [b, .bool wr])) : Bs B (H.set k (.var [c, wr'])) v s :=
  hb.set_var hg (fun x hx m => by
    simp only [List.mem_cons, List.not_mem_nil, or_false] at hx
    rcases hx with rfl | rfl
    · exact hb2.not_int m
    · simp) rfl

theorem f62_end {L1 : Heap} {s : List UInt8} (hn : n = H.length) (hH : LowH n H) (hne : s ≠ []) (h : Q (growV H.length 1 (s.map brw)) (H ++ [.arr (s.map brw).flatten])) :
    tidyK n Q (.slice (.new (H.length + L1.length)) 0 (s.map brw).length 1 none) (H ++ (L1 ++ [.arr (s.map brw).flatten])) := by
  have hm : s.map brw ≠ [] := by simpa using hne
  refine .inr ⟨growV H.length 1 (s.map brw), _, ⟨_, sel1 (a := L1.length) hn hH ?_ (brws_flat s), ?_⟩, h⟩
  · rw [List.getElem?_append_right (Nat.le_refl _), Nat.sub_self]; rfl
  · rw [growV_ne hm]
    refine slice_rv ?_ (by simp)
    rw [← hn, pick_at0]

theorem f62_loop (hn : n = H.length) (hH : LowH n H) (x : Nat) : ∀ (L : Heap) (v : AV) (s : List UInt8), AppOk B H L 1 v (s.map brw) → ∀ m : Nat, x < 128 ^ m → s.length + m ≤ 1000000 →
    Q (growV H.length 1 ((s ++ putF x).map brw)) (H ++ [.arr ((s ++ putF x).map brw).flatten]) → L62_0 B (Cl B) n v (.int .u64 (x : Int)) (H ++ L) Q := by
  induction x using Nat.strongRecOn with
  | ind x ih =>
  intro L v s hv m hx hsz h
  refine L62_0_in (ACall.cle B table) ?_
  rw [pInt_int]
  rw [putF] at h
  refine bs_dec (fun h1 => ?_) fun h1 => ?_
  · obtain ⟨m, rfl⟩ : ∃ m', m = m' + 1 := by
      cases m with
      | zero => simp at hx; omega
      | succ m => exact ⟨m, rfl⟩
    have hx2 : x / 128 < 128 ^ m := by
      rw [Nat.pow_succ] at hx
      omega
    rw [if_neg (by omega)] at h
    rw [pInt_int, put_byte, show layParts [(.int .u8 0)] [(0, 1, .int .u8 (((UInt8.ofNat (x % 128 + 128)).toNat : Nat) : Int))] = some (brw (UInt8.ofNat (x % 128 + 128))) from rfl, ob_some]
    refine slK_in ?_
    have hv2 : AppOk B H (L ++ [.arr (brw (UInt8.ofNat (x % 128 + 128)))]) 1 v (s.map brw) := by
      obtain ⟨h0, h2 | ⟨o, off, rfl, hc⟩ | ⟨j, hne, rfl, hg⟩⟩ := hv
      · exact ⟨h0, .inl h2⟩
      · exact ⟨h0, .inr (.inl ⟨o, off, rfl, by rw [← List.append_assoc]; exact cellsAt_pre hc⟩)⟩
      · exact ⟨h0, .inr (.inr ⟨j, hne, rfl, get_pre hg⟩)⟩
    rw [List.append_assoc]
    refine op_appX hv2 (rows2 := [brw (UInt8.ofNat (x % 128 + 128))]) (by rw [← List.append_assoc]; exact sl_row1 rfl) (by simp) (by simp [maxBytes]; omega) fun L1 hL1 _ => ?_
    have e : s.map brw ++ [brw (UInt8.ofNat (x % 128 + 128))] = (s ++ [UInt8.ofNat (x % 128 + 128)]).map brw := by simp
    rw [e]
    have hshr : ∀ (K : AV → Heap → Prop) (G : Heap), K (.int .u64 ((x / 128 : Nat) : Int)) G → aop B E0 G K (.shf .shr .u64 (.const (.int .u64 (x : Int))) (.const (.int .u64 7))) := fun K G hK => by
      simp only [aop, opK, Opd.look, ob_some, pInt_int, pAny_int]
      show shfK .shr .u64 (x : Int) 7 _
      unfold shfK
      rw [if_neg (by decide)]
      show K (.int .u64 ((x : Int).fdiv (2 ^ (min (7 : Int).toNat IntKind.u64.bits)))) G
      have : (2 : Int) ^ (min (7 : Int).toNat IntKind.u64.bits) = 128 := by decide
      rw [this, Int.fdiv_eq_ediv_of_nonneg _ (by decide)]
      exact hK
    refine hshr _ _ ?_
    have hgl : (L1 ++ [AObj.arr ((s ++ [UInt8.ofNat (x % 128 + 128)]).map brw).flatten])[(L ++ [AObj.arr (brw (UInt8.ofNat (x % 128 + 128)))]).length]? = some (.arr ((s ++ [UInt8.ofNat (x % 128 + 128)]).map brw).flatten) := by
      rw [← hL1, List.getElem?_append_right (Nat.le_refl _), Nat.sub_self]; rfl
    refine ih (x / 128) (by omega) _ _ (s ++ [UInt8.ofNat (x % 128 + 128)]) ⟨brws_len _, .inr (.inr ⟨_, by simp, rfl, hgl⟩)⟩ m hx2 (by simp; omega) ?_
    simpa using h
  · rw [if_pos (by omega)] at h
    refine J62_1_in ?_
    rw [pInt_int, last_byte (by omega), show layParts [(.int .u8 0)] [(0, 1, .int .u8 (((UInt8.ofNat x).toNat : Nat) : Int))] = some (brw (UInt8.ofNat x)) from rfl, ob_some]
    refine slK_in ?_
    have hv2 : AppOk B H (L ++ [.arr (brw (UInt8.ofNat x))]) 1 v (s.map brw) := by
      obtain ⟨h0, h2 | ⟨o, off, rfl, hc⟩ | ⟨j, hne, rfl, hg⟩⟩ := hv
      · exact ⟨h0, .inl h2⟩
      · exact ⟨h0, .inr (.inl ⟨o, off, rfl, by rw [← List.append_assoc]; exact cellsAt_pre hc⟩)⟩
      · exact ⟨h0, .inr (.inr ⟨j, hne, rfl, get_pre hg⟩)⟩
    rw [List.append_assoc]
    refine op_appX hv2 (rows2 := [brw (UInt8.ofNat x)]) (by rw [← List.append_assoc]; exact sl_row1 rfl) (by simp) (by simp [maxBytes]; omega) fun L1 hL1 _ => ?_
    have e : s.map brw ++ [brw (UInt8.ofNat x)] = (s ++ [UInt8.ofNat x]).map brw := by simp
    rw [e, ← hL1]
    exact f62_end hn hH (by simp) h

theorem f62_ok {v : AV} {s : List UInt8} {x : Nat} (hs : Bs B H v s) (hx : x < 18446744073709551616) (hsz : s.length ≤ 900000) (h : Q (growV H.length 1 ((s ++ putF x).map brw)) (H ++ [.arr ((s ++ putF x).map brw).flatten])) : Cl B 62 [v, .int .u64 (x : Int)] H Q := by
  refine f62_in fun n cl hn hcl hH hA => ?_
  subst hcl
  have hl : s.length = (s.map brw).length := by simp
  rw [hs.len, ob_some, ob_some, hl]
  refine AppOk.cut hs fun v' hv _ => ?_
  have := f62_loop (B := B) (Q := Q) hn hH x [] v' s hv 10 (by omega) (by omega) h
  rwa [List.append_nil] at this

/-! ### The writer -/
def Wr (G : Heap) (k : Nat) (b : AV) (wr : Bool) : Prop := G[k]? = some (.var [b, .bool wr])
abbrev wp (k : Nat) : AV := .ptr (some (.new k, 0))

theorem f25_ok {k : Nat} {b : AV} {wr so : Bool} (hw : Wr H k b wr) (h : Q (.tuple []) (H.set k (.var [b, .bool (wr || !so)]))) : Cl B 25 [wp k, .bool so] H Q := by
  refine f25_in fun n cl hn hcl hH hA => op_nil (op_fldP ?_)
  rw [peekV hw (v := .bool wr) (i := 0 + 1) rfl, ob_some, pBool_bool]
  have st : ∀ c : Bool, c = (wr || !so) → tidyK n Q (.tuple []) (H.set k (.var (putAt [b, .bool wr] (0 + 1) [.bool c]))) := fun c hc => by
    subst hc; exact tidy_none h
  refine bs_iff.2 ⟨fun h1 => op_nil (op_fldP (op_st rfl rfl hw (by simp) (st true (by rw [h1]; rfl)))), fun h1 => op_notB (op_nil (op_fldP (op_st rfl rfl hw (by simp) (st (!so) (by rw [h1]; rfl)))))⟩

theorem f30_ok {k : Nat} {b : AV} {wr : Bool} (hw : Wr H k b wr) (hb : ∀ K : AV → Prop, K b → pLive b K) (h1 : wr = true → Q (.tuple [.nils, .int .i64 1]) H) (h2 : wr = false → Q (.tuple [b, .int .i64 0]) H) : Cl B 30 [wp k] H Q := by
  refine f30_in fun n cl hn hcl hH hA => op_nil (op_fldP ?_)
  rw [peekV hw (v := .bool wr) (i := 0 + 1) rfl, ob_some, pBool_bool]
  refine bs_iff.2 ⟨fun h => tidy_none (h1 h), fun h => op_nil (op_fldP ?_)⟩
  rw [peekV hw (v := b) (i := 0 + 0) rfl, ob_some]
  exact hb _ (tidy_none (h2 h))

theorem set_pre {L : Heap} {k : Nat} {o : AObj} (h : k < H.length) : (H ++ L).set k o = H.set k o ++ L := List.set_append_left _ _ h

/-- A number. -/
theorem f29_ok {k : Nat} {b : AV} {wr : Bool} {x1 : Int} {s : List UInt8} (hw : Wr H k b wr) (hb : Bs B H b s) (hx : x1 ≤ 9223372036854775807) (hsz : s.length ≤ 4000)
    (h : ∀ G : Heap, G.length = H.length → (∀ j, j ≠ k → G[j]? = H[j]?) → Wr G k (growV H.length 1 ((s ++ putF x1.toNat).map brw)) (wr || !(decide (0 ≤ x1) && decide (x1 ≤ 1099511627776))) →
      Q (.tuple []) (G ++ [.arr ((s ++ putF x1.toNat).map brw).flatten])) : Cl B 29 [wp k, .int .i64 x1] H Q := by
  have hk := lt_of_get hw
  refine f29_in fun n cl hn hcl hH hA => ?_
  subst hcl
  have emax : IntKind.u64.wrap (maxInts x1 [0]) = ((x1.toNat : Nat) : Int) := by
    have : maxInts x1 [0] = ((x1.toNat : Nat) : Int) := by simp only [maxInts]; split <;> omega
    rw [this]
    simp only [IntKind.wrap, IntKind.bits, IntKind.signed]
    simp; omega
  have go : ∀ so : Bool, so = (decide (0 ≤ x1) && decide (x1 ≤ 1099511627776)) → ∀ G0, G0 = H.set k (.var [b, .bool (wr || !so)]) →
      aop B E0 G0 (fun v19 _ => aop B E0 G0 (fun v20 _ => ob (peek B G0 v20) fun c21 => pLive c21 fun v22 => Cl B 62 [v22, .int .u64 (IntKind.u64.wrap (maxInts x1 [0]))] G0 fun v23 H24 => pLive v23 fun v25 => aop B E0 H24 (fun v26 _ => aop B E0 H24 (fun v27 _ => aop B E0 H24 (fun _ H29 => tidyK n Q (.tuple []) H29) (.st 1 (.const v27) (.const v25))) (.fieldPtr 0 (.const v26))) (.nilCheck (.const (wp k)))) (.fieldPtr 0 (.const v19))) (.nilCheck (.const (wp k))) := fun so hso G0 hG0 => by
    have hw0 : Wr G0 k b (wr || !so) := by rw [hG0]; exact get_set hk
    have hlen : G0.length = H.length := by rw [hG0]; exact List.length_set
    have hb0 : Bs B G0 b s := by rw [hG0]; exact hb.set_wr hb hw
    refine op_nil (op_fldP ?_)
    rw [peekV hw0 (v := b) (i := 0 + 0) rfl, ob_some]
    refine Sl.live hb0 _ ?_
    rw [emax]
    refine f62_ok hb0 (by omega) (by omega) ?_
    have hne : (s ++ putF x1.toNat).map brw ≠ [] := by simp [putF_ne]
    rw [growV_ne hne]
    refine live_slice _ (op_nil (op_fldP ?_))
    refine op_st (vs := [.slice (.new G0.length) 0 ((s ++ putF x1.toNat).map brw).length 1 none]) (c := [b, .bool (wr || !so)]) rfl rfl (get_pre hw0) (by simp) (tidy_none ?_)
    rw [set_pre (by rw [hlen]; exact hk)]
    have := h (G0.set k (.var [growV H.length 1 ((s ++ putF x1.toNat).map brw), .bool (wr || !so)])) (by rw [List.length_set, hlen]) (fun j hj => by rw [get_set_ne (Ne.symm hj), hG0, get_set_ne (Ne.symm hj)]) (by
      rw [← hso]; exact get_set (by rw [hlen]; exact hk))
    rw [growV_ne hne] at this
    rw [hlen]
    exact this
  refine bs_dec (fun h1 => ib_le (f25_ok hw (live_unit ?_))) fun h1 => f25_ok hw (live_unit ?_)
  · exact go _ (by rw [decide_eq_true (by omega : (0 : Int) ≤ x1), Bool.true_and]) _ rfl
  · exact go false (by rw [decide_eq_false (by omega : ¬ (0 : Int) ≤ x1), Bool.false_and]) _ rfl
end

end Go.Am
