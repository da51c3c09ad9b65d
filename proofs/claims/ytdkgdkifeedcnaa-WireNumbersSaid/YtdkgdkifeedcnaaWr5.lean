/- The function Say: put together. -/
import Derived.Test.YtdkgdkifeedcnaaWr4
namespace Go.Am
open Go

def sayW (kind : Int) (r : Rep) : Bool := if r.err ≠ 0 then !emptyB 0 r else
  !emptyB kind r || (if kind = 1 then !numOk r.last else if kind = 4 then !numOk r.epoch else if kind = 5 then !numOk r.epoch else if kind = 6 then (!numOk r.last || !numOk r.epoch) else false)
def sayF (kind : Int) (r : Rep) : List UInt8 := putF r.err.toNat ++ (if r.err ≠ 0 then [] else
  if kind = 1 then putF r.last.toNat else if kind = 2 then (putF 0 ++ []) ++ putF 0 else if kind = 3 then (putF 0 ++ []) ++ putF 0 else if kind = 4 then putF r.epoch.toNat ++ (putF 0 ++ []) else if kind = 5 then (putF r.epoch.toNat ++ (putF 0 ++ [])) ++ putF 0 else putF r.last.toNat ++ putF r.epoch.toNat)

section
variable {B : Base} {n : Nat} {H G : Heap} {Q : AV → Heap → Prop} {r : Rep} {s : List UInt8} {wr : Bool} {kind : Int}

theorem f17_done (h : St B H G r.row (H.length + 1) s wr) (h1 : wr = true → ∀ L, Q (.tuple [.nils, .int .i64 1]) (H ++ L)) (h2 : wr = false → ∀ v L, Bs B (H ++ L) v s → Q (.tuple [v, .int .i64 0]) (H ++ L)) : J17_12 B (Cl B) n (wp (H.length + 1)) G Q := by
  obtain ⟨L, hL⟩ := h.pre
  subst hL
  refine J17_12_in (h.done (fun e => ?_) fun e v hv => ?_)
  · exact op_ext2 (fun K hK => hK) (tidy_none (h1 e L))
  · exact op_ext2 (fun K hK => Sl.live hv K hK) (tidy_none (h2 e v L hv))

theorem putF_small : ∀ x : Nat, x < 18446744073709551616 → (putF x).length ≤ 10 := by
  have : ∀ m x : Nat, x < 128 ^ (m + 1) → (putF x).length ≤ m + 1 := fun m => by
    induction m with
    | zero => intro x hx; unfold putF; rw [if_pos (by simpa using hx)]; simp
    | succ m ih =>
      intro x hx
      unfold putF
      split
      · simp
      · have := ih (x / 128) (by rw [Nat.pow_succ] at hx; omega)
        simp only [List.length_cons]; omega
  intro x hx
  exact this 9 x (by omega)

theorem f17_body (h : St B H G r.row (H.length + 1) s wr) (hk : 1 ≤ kind ∧ kind ≤ 6) (hs : s.length ≤ 100) (hl : r.last ≤ 9223372036854775807) (he : r.epoch ≤ 9223372036854775807)
    (h1 : (wr || (if kind = 1 then !numOk r.last else if kind = 4 then !numOk r.epoch else if kind = 5 then !numOk r.epoch else if kind = 6 then (!numOk r.last || !numOk r.epoch) else false)) = true → ∀ L, Q (.tuple [.nils, .int .i64 1]) (H ++ L))
    (h2 : (wr || (if kind = 1 then !numOk r.last else if kind = 4 then !numOk r.epoch else if kind = 5 then !numOk r.epoch else if kind = 6 then (!numOk r.last || !numOk r.epoch) else false)) = false → ∀ v L, Bs B (H ++ L) v (s ++ (if kind = 1 then putF r.last.toNat else if kind = 2 then (putF 0 ++ []) ++ putF 0 else if kind = 3 then (putF 0 ++ []) ++ putF 0 else if kind = 4 then putF r.epoch.toNat ++ (putF 0 ++ []) else if kind = 5 then (putF r.epoch.toNat ++ (putF 0 ++ [])) ++ putF 0 else putF r.last.toNat ++ putF r.epoch.toNat)) → Q (.tuple [v, .int .i64 0]) (H ++ L)) :
    J17_11 B (Cl B) n (wp H.length) (wp (H.length + 1)) kind G Q := by
  have p0 : (putF 0).length ≤ 10 := putF_small 0 (by omega)
  have pl : (putF r.last.toNat).length ≤ 10 := putF_small _ (by omega)
  have pe : (putF r.epoch.toNat).length ≤ 10 := putF_small _ (by omega)
  have k6 : kind = 1 ∨ kind = 2 ∨ kind = 3 ∨ kind = 4 ∨ kind = 5 ∨ kind = 6 := by omega
  have ap : ∀ (a b c : List UInt8), (a ++ b) ++ c = a ++ (b ++ c) := fun a b c => List.append_assoc a b c
  have z0 : ((([] : List UInt8).length : Nat)) = 0 := rfl
  refine J17_11_in ?_
  rcases k6 with rfl | rfl | rfl | rfl | rfl | rfl
  · refine ib_eq_yes rfl (J17_10_in ?_)
    rw [pBool_bool, if_pos rfl]
    refine h.fld (v := .int .i64 r.last) (off := 1) rfl fun p => ?_
    rw [p, ob_some, pInt_int]
    exact h.num (by omega) hl fun G1 h' => f17_done h' h1 h2
  · refine ib_eq_no (by decide) (J17_10_in ?_)
    rw [pBool_bool, if_neg (by simp)]
    refine ib_eq_yes rfl (J17_9_in ?_)
    rw [pBool_bool, if_pos rfl]
    refine op_fldP (op_fldP ?_)
    rw [peekV h.req (v := .nils) (i := 0 + 3 + 0) rfl, ob_some]
    refine live_nils _ (op_toStr Bs.nil (h.text (by omega) (by simp) fun G1 h' => J17_2_in ?_))
    rw [z0] at h'
    refine op_fldP (op_fldP ?_)
    rw [peekV h'.req (v := .nils) (i := 0 + 3 + 1) rfl, ob_some]
    refine live_nils _ (h'.list39 (by decide) (by simp; omega) fun G2 h3 => f17_done h3 (fun e => h1 (by simpa using e)) fun e => ?_)
    have := h2 (by simpa using e)
    simpa using this
  · refine ib_eq_no (by decide) (J17_10_in ?_)
    rw [pBool_bool, if_neg (by simp)]
    refine ib_eq_no (by decide) (J17_9_in ?_)
    rw [pBool_bool, if_neg (by simp)]
    refine ib_eq_yes rfl (J17_8_in ?_)
    rw [pBool_bool, if_pos rfl]
    refine op_fldP (op_fldP ?_)
    rw [peekV h.req (v := .nils) (i := 0 + 5 + 0) rfl, ob_some]
    refine live_nils _ (op_toStr Bs.nil (h.text (by omega) (by simp) fun G1 h' => J17_3_in ?_))
    rw [z0] at h'
    refine op_fldP (op_fldP ?_)
    rw [peekV h'.req (v := .nils) (i := 0 + 5 + 1) rfl, ob_some]
    refine live_nils _ (h'.list41 (by decide) (by simp; omega) fun G2 h3 => f17_done h3 (fun e => h1 (by simpa using e)) fun e => ?_)
    have := h2 (by simpa using e)
    simpa using this
  · refine ib_eq_no (by decide) (J17_10_in ?_)
    rw [pBool_bool, if_neg (by simp)]
    refine ib_eq_no (by decide) (J17_9_in ?_)
    rw [pBool_bool, if_neg (by simp)]
    refine ib_eq_no (by decide) (J17_8_in ?_)
    rw [pBool_bool, if_neg (by simp)]
    refine ib_eq_yes rfl (J17_7_in ?_)
    rw [pBool_bool, if_pos rfl]
    refine h.fld (v := .int .i64 r.epoch) (off := 2) rfl fun p => ?_
    rw [p, ob_some, pInt_int]
    refine h.num (by omega) he fun G1 h' => h'.fld (v := .nils) (off := 7) rfl fun p => ?_
    rw [p, ob_some]
    refine live_nils _ (op_toStr Bs.nil (h'.text (by simp; omega) (by simp) fun G2 h3 => f17_done h3 h1 fun e => ?_))
    have := h2 e
    simpa using this
  · refine ib_eq_no (by decide) (J17_10_in ?_)
    rw [pBool_bool, if_neg (by simp)]
    refine ib_eq_no (by decide) (J17_9_in ?_)
    rw [pBool_bool, if_neg (by simp)]
    refine ib_eq_no (by decide) (J17_8_in ?_)
    rw [pBool_bool, if_neg (by simp)]
    refine ib_eq_no (by decide) (J17_7_in ?_)
    rw [pBool_bool, if_neg (by simp)]
    refine ib_eq_yes rfl (J17_6_in ?_)
    rw [pBool_bool, if_pos rfl]
    refine h.fld (v := .int .i64 r.epoch) (off := 2) rfl fun p => ?_
    rw [p, ob_some, pInt_int]
    refine h.num (by omega) he fun G1 h' => J17_5_in (h'.fld (v := .nils) (off := 7) rfl fun p => ?_)
    rw [p, ob_some]
    refine live_nils _ (op_toStr Bs.nil (h'.text (by simp; omega) (by simp) fun G2 h3 => J17_4_in (h3.fld (v := .nils) (off := 8) rfl fun p => ?_)))
    rw [p, ob_some]
    refine live_nils _ (h3.list43 (by decide) (by simp; omega) fun G3 h4 => f17_done h4 h1 fun e => ?_)
    have := h2 e
    simpa using this
  · refine ib_eq_no (by decide) (J17_10_in ?_)
    rw [pBool_bool, if_neg (by simp)]
    refine ib_eq_no (by decide) (J17_9_in ?_)
    rw [pBool_bool, if_neg (by simp)]
    refine ib_eq_no (by decide) (J17_8_in ?_)
    rw [pBool_bool, if_neg (by simp)]
    refine ib_eq_no (by decide) (J17_7_in ?_)
    rw [pBool_bool, if_neg (by simp)]
    refine ib_eq_no (by decide) (J17_6_in ?_)
    rw [pBool_bool, if_neg (by simp)]
    refine bs_yes (by decide) (h.fld (v := .int .i64 r.last) (off := 1) rfl fun p => ?_)
    rw [p, ob_some, pInt_int]
    refine h.num (by omega) hl fun G1 h' => h'.fld (v := .int .i64 r.epoch) (off := 2) rfl fun p => ?_
    rw [p, ob_some, pInt_int]
    refine h'.num (by simp; omega) he fun G2 h3 => f17_done h3 (fun e => h1 (by simpa [Bool.or_assoc] using e)) fun e => ?_
    have := h2 (by simpa [Bool.or_assoc] using e)
    simpa using this

theorem f17_ok (hk : 1 ≤ kind ∧ kind ≤ 6) (herr : 0 ≤ r.err ∧ r.err ≤ 10) (hl : r.last ≤ 9223372036854775807) (he : r.epoch ≤ 9223372036854775807)
    (h1 : sayW kind r = true → ∀ L, Q (.tuple [.nils, .int .i64 1]) (H ++ L)) (h2 : sayW kind r = false → ∀ v L, Bs B (H ++ L) v (sayF kind r) → Q (.tuple [v, .int .i64 0]) (H ++ L)) : Cl B 17 [.int .i64 kind, .agg r.row] H Q := by
  refine f17_in fun n cl hn hcl hH hA => op_box rfl rfl (J17_18_in ?_)
  subst hcl
  have p : ∀ {i : Nat} {v : AV}, r.row[i]? = some v → peek B (H ++ [AObj.var r.row]) (.ptr (some (.new H.length, i))) = some v := fun {i v} hv => peekV (c := r.row) (by rw [get_app0]; rfl) hv
  refine bs_no (by simp; omega) (bs_no (by simp; omega) (op_fldP ?_))
  rw [p (v := .int .i64 r.err) (i := 0 + 0) rfl, ob_some, pInt_int]
  refine bs_no (by simp; omega) (op_fldP ?_)
  rw [p (v := .int .i64 r.err) (i := 0 + 0) rfl, ob_some, pInt_int]
  refine ib_gt_no (by omega) (J17_0_in ?_)
  rw [pBool_bool, if_neg (by simp)]
  refine J17_17_in ?_
  rw [show layParts [.nils, (.bool false)] [] = some [.nils, .bool false] from rfl, ob_some]
  refine op_box rfl rfl ?_
  have e1 : (H ++ [AObj.var r.row]).length = H.length + 1 := by simp
  rw [e1]
  have st : St B H (H ++ [AObj.var r.row] ++ [.var [.nils, .bool false]]) r.row (H.length + 1) [] false := by
    refine ⟨⟨[.var r.row, .var [.nils, .bool false]], by simp⟩, ?_, ⟨.nils, ?_, Bs.nil⟩, by omega⟩
    · rw [List.append_assoc, get_app0]; rfl
    · show _ = _
      rw [List.append_assoc, get_app]; rfl
  generalize H ++ [AObj.var r.row] ++ [.var [.nils, .bool false]] = G at st
  refine J17_16_in (st.fld (v := .int .i64 r.err) (off := 0) rfl fun p => ?_)
  rw [p, ob_some, pInt_int]
  have hn10 : numOk r.err = true := by simp [numOk]; omega
  have pe : (putF r.err.toNat).length ≤ 10 := putF_small _ (by omega)
  refine st.num (by simp) (by omega) fun G1 st => J17_15_in (st.fld (v := .int .i64 r.err) (off := 0) rfl fun p => ?_)
  rw [hn10, List.nil_append] at st
  rw [p, ob_some, pInt_int]
  by_cases h0 : r.err = 0
  · refine ib_ne_no h0 (J17_1_in ?_)
    rw [pBool_bool, if_neg (by simp)]
    refine J17_14_in ?_
    rw [peekVN st.req (n := 9) rfl, ob_some]
    refine f38_ok (tyK_bool (st.must fun G2 st => J17_13_in ?_))
    simp only [sayW, sayF, h0, ne_eq, not_true_eq_false, if_false] at h1 h2
    refine f17_body st hk (by omega) hl he ?_ ?_
    · simpa using h1
    · rw [h0]; simpa using h2
  · refine ib_ne_yes h0 (J17_1_in ?_)
    rw [pBool_bool, if_pos rfl, peekVN st.req (n := 9) rfl, ob_some]
    simp only [sayW, sayF, h0, ne_eq, not_false_eq_true, if_true, List.append_nil] at h1 h2
    refine f38_ok (tyK_bool (st.must fun G2 st => ?_))
    obtain ⟨L, hL⟩ := st.pre
    subst hL
    refine st.done (fun e => ?_) fun e v hv => ?_
    · exact op_ext2 (fun K hK => hK) (tidy_none (h1 (by simpa using e) L))
    · exact op_ext2 (fun K hK => Sl.live hv K hK) (tidy_none (h2 (by simpa using e) v L hv))
theorem f17_bad (hk : 1 ≤ kind ∧ kind ≤ 6) (herr : 10 < r.err) (h1 : ∀ L, Q (.tuple [.nils, .int .i64 1]) (H ++ L)) : Cl B 17 [.int .i64 kind, .agg r.row] H Q := by
  refine f17_in fun n cl hn hcl hH hA => op_box rfl rfl (J17_18_in ?_)
  subst hcl
  have p : ∀ {i : Nat} {v : AV}, r.row[i]? = some v → peek B (H ++ [AObj.var r.row]) (.ptr (some (.new H.length, i))) = some v := fun {i v} hv => peekV (c := r.row) (by rw [get_app0]; rfl) hv
  refine bs_no (by simp; omega) (bs_no (by simp; omega) (op_fldP ?_))
  rw [p (v := .int .i64 r.err) (i := 0 + 0) rfl, ob_some, pInt_int]
  refine bs_no (by simp; omega) (op_fldP ?_)
  rw [p (v := .int .i64 r.err) (i := 0 + 0) rfl, ob_some, pInt_int]
  refine ib_gt_yes (by omega) (J17_0_in ?_)
  rw [pBool_bool, if_pos rfl]
  exact tidy_none (h1 _)
end

end Go.Am
