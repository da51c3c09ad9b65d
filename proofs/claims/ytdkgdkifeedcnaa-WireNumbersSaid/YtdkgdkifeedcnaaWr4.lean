/- The function Say: what it answers to replies without lists. -/
import Derived.Test.YtdkgdkifeedcnaaWr3
import Derived.Test.YtdkgdkifeedcnaaAg17
import Derived.Test.YtdkgdkifeedcnaaAg38
import Derived.Test.YtdkgdkifeedcnaaAg39
import Derived.Test.YtdkgdkifeedcnaaAg41
import Derived.Test.YtdkgdkifeedcnaaAg43
namespace Go.Am
open Go

structure Rep where
  err : Int
  last : Int
  epoch : Int
def Rep.row (r : Rep) : List AV := [.int .i64 r.err, .int .i64 r.last, .int .i64 r.epoch, .nils, .nils, .nils, .nils, .nils, .nils]
def emptyB (kind : Int) (r : Rep) : Bool := !(r.last != 0 && !(kind == 1 || kind == 6)) && !(r.epoch != 0 && (!(kind == 4 || kind == 5) && kind != 6))

section
variable {B : Base} {n : Nat} {H G : Heap} {Q : AV → Heap → Prop} {r : Rep} {s : List UInt8} {wr : Bool} {wi : Nat} {row : List AV} {K : Heap → Prop}

theorem f38_ok {kind : Int} (h : Q (.bool (emptyB kind r)) H) : Cl B 38 [.int .i64 kind, .agg r.row] H Q := by
  refine f38_in fun n cl hn hcl hH hA => op_box rfl rfl ?_
  have p : ∀ {i : Nat} {v : AV}, r.row[i]? = some v → peek B (H ++ [AObj.var r.row]) (.ptr (some (.new H.length, i))) = some v := fun {i v} hv => peekV (c := r.row) (by rw [get_app0]; rfl) hv
  have fin : ∀ b : Bool, b = emptyB kind r → tidyK n Q (.bool b) (H ++ [.var r.row]) := fun b hb => by subst hb; exact tidy_drop hn hH low_bool h
  have nl : lenOf AV.nils = some 0 := rfl
  -- from the summaries on
  have j5 : emptyB kind r = true → J38_5 B cl n kind (.ptr (some (.new H.length, 0))) (.bool false) (H ++ [.var r.row]) Q := fun he => by
    refine J38_5_in ?_
    rw [pBool_bool, if_neg (by simp)]
    refine op_fldP (op_fldP ?_)
    rw [p (v := .nils) (i := 0 + 3 + 0) rfl, ob_some]
    refine live_nils _ ?_
    rw [nl, ob_some]
    refine op_fldP (op_fldP ?_)
    rw [p (v := .nils) (i := 0 + 3 + 1) rfl, ob_some]
    refine live_nils _ ?_
    rw [nl, ob_some]
    refine bs_no (by decide) (J38_3_in ?_)
    rw [pBool_bool, if_neg (by simp)]
    refine op_fldP (op_fldP ?_)
    rw [p (v := .nils) (i := 0 + 5 + 0) rfl, ob_some]
    refine live_nils _ ?_
    rw [nl, ob_some]
    refine op_fldP (op_fldP ?_)
    rw [p (v := .nils) (i := 0 + 5 + 1) rfl, ob_some]
    refine live_nils _ ?_
    rw [nl, ob_some]
    refine bs_no (by decide) (J38_4_in ?_)
    rw [pBool_bool, if_neg (by simp)]
    exact J38_6_in (fin true he.symm)
  have j5t : emptyB kind r = false → J38_5 B cl n kind (.ptr (some (.new H.length, 0))) (.bool true) (H ++ [.var r.row]) Q := fun he => by
    refine J38_5_in ?_
    rw [pBool_bool, if_pos rfl]
    exact fin false he.symm
  have j1 : ∀ m : Bool, m = (kind == 4 || kind == 5) → ∀ c : Bool, emptyB kind r = !c → J38_1 B cl n kind (.ptr (some (.new H.length, 0))) (.bool m) (.bool c) (H ++ [.var r.row]) Q := fun m hm c hc => by
    refine J38_1_in ?_
    rw [pBool_bool]
    cases c with
    | true => rw [if_pos rfl]; exact j5t hc
    | false =>
      rw [if_neg (by simp)]
      refine op_fldP ?_
      rw [p (v := .nils) (i := 0 + 7) rfl, ob_some]
      refine live_nils _ ?_
      rw [nl, ob_some]
      refine bs_no (by decide) (J38_0_in ?_)
      rw [pBool_bool, if_neg (by simp)]
      refine op_fldP ?_
      rw [p (v := .nils) (i := 0 + 8) rfl, ob_some]
      refine live_nils _ ?_
      rw [nl, ob_some]
      exact bs_no (by decide) (j5 hc)
  have j2 : ∀ m : Bool, m = (kind == 4 || kind == 5) → ∀ c : Bool, c = (r.last != 0 && !(kind == 1 || kind == 6)) → J38_2 B cl n kind (.ptr (some (.new H.length, 0))) (.bool m) (.bool c) (H ++ [.var r.row]) Q := fun m hm c hc => by
    refine J38_2_in ?_
    rw [pBool_bool]
    cases c with
    | true => rw [if_pos rfl]; exact j5t (by simp only [emptyB]; rw [← hc]; rfl)
    | false =>
      have he : emptyB kind r = !(r.epoch != 0 && (!m && kind != 6)) := by simp only [emptyB]; rw [← hc, ← hm]; rfl
      rw [if_neg (by simp)]
      refine op_fldP ?_
      rw [p (v := .int .i64 r.epoch) (i := 0 + 2) rfl, ob_some, pInt_int]
      refine bs_iff.2 ⟨fun h1 => ?_, fun h1 => j1 m hm false (by rw [he, h1]; rfl)⟩
      rw [pBool_bool]
      refine bs_iff.2 ⟨fun h2 => j1 m hm false (by rw [he, h2]; simp), fun h2 => ?_⟩
      exact ib_neq (j1 m hm _ (by rw [he, h1, h2]; simp))
  have j7 : ∀ m : Bool, m = (kind == 4 || kind == 5) → ∀ u : Bool, u = (kind == 1 || kind == 6) → J38_7 B cl n kind (.ptr (some (.new H.length, 0))) (.bool u) (.bool m) (H ++ [.var r.row]) Q := fun m hm u hu => by
    refine J38_7_in (op_fldP ?_)
    rw [p (v := .int .i64 r.last) (i := 0 + 1) rfl, ob_some, pInt_int]
    refine bs_iff.2 ⟨fun h1 => op_notB (j2 m hm _ (by rw [h1, ← hu]; rfl)), fun h1 => j2 m hm false (by rw [h1]; rfl)⟩
  have j8 : ∀ u : Bool, u = (kind == 1 || kind == 6) → J38_8 B cl n kind (.ptr (some (.new H.length, 0))) (.bool u) (H ++ [.var r.row]) Q := fun u hu => by
    refine J38_8_in (bs_iff.2 ⟨fun h1 => j7 true (by rw [h1]; rfl) u hu, fun h1 => ib_eqq (j7 _ (by rw [h1]; rfl) u hu)⟩)
  refine J38_9_in (bs_iff.2 ⟨fun h1 => j8 true (by rw [h1]; rfl), fun h1 => ib_eqq (j8 _ (by rw [h1]; rfl))⟩)

theorem St.list39 {m : Int} {f : AV} (hm : 0 ≤ m) (h : St B H G row wi s wr) (hsz : s.length ≤ 4000) (hk : ∀ G', St B H G' row wi (s ++ putF 0) wr → K G') : Cl B 39 [wp wi, .nils, .int .i64 m, f] G fun v G' => pLive v fun _ => K G' := by
  refine f39_in fun n cl hn hcl hH hA => ?_
  subst hcl
  have nl : lenOf AV.nils = some 0 := rfl
  rw [nl, ob_some]
  refine ib_le (h.must fun G1 h1 => ?_)
  rw [decide_eq_true (show ((0 : Nat) : Int) ≤ m from by omega), Bool.not_true, Bool.or_false] at h1
  rw [ob_some]
  refine h1.num (x := ((0 : Nat) : Int)) hsz (by omega) fun G2 h2 => ?_
  rw [ob_some]
  refine L39_0_in (ACall.cle B table) (bs_no (by decide) (tidy_none (live_unit (hk _ ?_))))
  simpa [numOk] using h2
theorem St.list41 {m : Int} {f : AV} (hm : 0 ≤ m) (h : St B H G row wi s wr) (hsz : s.length ≤ 4000) (hk : ∀ G', St B H G' row wi (s ++ putF 0) wr → K G') : Cl B 41 [wp wi, .nils, .int .i64 m, f] G fun v G' => pLive v fun _ => K G' := by
  refine f41_in fun n cl hn hcl hH hA => ?_
  subst hcl
  have nl : lenOf AV.nils = some 0 := rfl
  rw [nl, ob_some]
  refine ib_le (h.must fun G1 h1 => ?_)
  rw [decide_eq_true (show ((0 : Nat) : Int) ≤ m from by omega), Bool.not_true, Bool.or_false] at h1
  rw [ob_some]
  refine h1.num (x := ((0 : Nat) : Int)) hsz (by omega) fun G2 h2 => ?_
  rw [ob_some]
  refine L41_0_in (ACall.cle B table) (bs_no (by decide) (tidy_none (live_unit (hk _ ?_))))
  simpa [numOk] using h2
theorem St.list43 {m : Int} {f : AV} (hm : 0 ≤ m) (h : St B H G row wi s wr) (hsz : s.length ≤ 4000) (hk : ∀ G', St B H G' row wi (s ++ putF 0) wr → K G') : Cl B 43 [wp wi, .nils, .int .i64 m, f] G fun v G' => pLive v fun _ => K G' := by
  refine f43_in fun n cl hn hcl hH hA => ?_
  subst hcl
  have nl : lenOf AV.nils = some 0 := rfl
  rw [nl, ob_some]
  refine ib_le (h.must fun G1 h1 => ?_)
  rw [decide_eq_true (show ((0 : Nat) : Int) ≤ m from by omega), Bool.not_true, Bool.or_false] at h1
  rw [ob_some]
  refine h1.num (x := ((0 : Nat) : Int)) hsz (by omega) fun G2 h2 => ?_
  rw [ob_some]
  refine L43_0_in (ACall.cle B table) (bs_no (by decide) (tidy_none (live_unit (hk _ ?_))))
  simpa [numOk] using h2
end

end Go.Am
