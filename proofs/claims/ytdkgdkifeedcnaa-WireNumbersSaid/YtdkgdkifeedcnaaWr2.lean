/- The writer's texts; the function Ask: what it answers to requests without entries. -/
import Derived.Test.YtdkgdkifeedcnaaWr1
import Derived.Test.YtdkgdkifeedcnaaAg13
namespace Go.Am
open Go

section
variable {B : Base} {n : Nat} {H : Heap} {Q : AV → Heap → Prop}

theorem f61_ok {v : AV} {s t : List UInt8} (hs : Bs B H v s) (hsz : s.length ≤ 800000) (ht : t.length ≤ 100000)
    (h : Q (growV H.length 1 ((s ++ putF t.length ++ t).map brw)) (H ++ [.arr ((s ++ putF t.length ++ t).map brw).flatten])) : Cl B 61 [v, .str t] H Q := by
  refine f61_in fun n cl hn hcl hH hA => ?_
  subst hcl
  have e : IntKind.u64.wrap ((t.length : Nat) : Int) = ((t.length : Nat) : Int) := by
    simp only [IntKind.wrap, IntKind.bits, IntKind.signed]
    simp; omega
  rw [e]
  refine f62_ok hs (by omega) (by omega) ?_
  have hpl : (putF t.length).length ≤ t.length + 1 := putF_len _
  have hne : (s ++ putF t.length).map brw ≠ [] := by simp [putF_ne]
  rw [growV_ne hne]
  refine live_slice _ ?_
  by_cases h0 : t = []
  · subst h0
    rw [List.append_nil, growV_ne hne] at h
    have : ∀ K : AV → Heap → Prop, ∀ G v', K (.slice v' 0 ((s ++ putF ([] : List UInt8).length).map brw).length 1 none) G → aop B E0 G K (.appendS (.const (.slice v' 0 ((s ++ putF ([] : List UInt8).length).map brw).length 1 none)) (.const (.str []))) := fun K G v' hK => by
      simp only [aop, opK, Opd.look, ob_some, pStr_str]
      exact hK
    exact this _ _ _ (tidy_none h)
  · have hv : AppOk B H [.arr ((s ++ putF t.length).map brw).flatten] 1 (.slice (.new (H.length + 0)) 0 ((s ++ putF t.length).map brw).length 1 none) ((s ++ putF t.length).map brw) := ⟨brws_len _, .inr (.inr ⟨0, hne, rfl, rfl⟩)⟩
    simp only [aop, opK, Opd.look, ob_some, pStr_str]
    have hap := app_to (bytes := 1) (rows2 := t.map brw) (K := fun v H5 => tidyK n Q v H5) hv (by simpa using h0) (by simp [maxBytes]; omega) fun L1 hL1 _ => by
      have e2 : (s ++ putF t.length).map brw ++ t.map brw = (s ++ putF t.length ++ t).map brw := by simp
      rw [e2, ← hL1]
      exact f62_end hn hH (by simp [h0]) h
    rw [brws_cells t, show (t.map brw).length = t.length from by simp] at hap
    exact hap

theorem f28_ok {k : Nat} {b : AV} {wr : Bool} {s t : List UInt8} (hw : Wr H k b wr) (hb : Bs B H b s) (hsz : s.length ≤ 4000) (ht : t.length ≤ 100000)
    (h : ∀ G : Heap, G.length = H.length → (∀ j, j ≠ k → G[j]? = H[j]?) → Wr G k (growV H.length 1 ((s ++ putF t.length ++ t).map brw)) wr → Q (.tuple []) (G ++ [.arr ((s ++ putF t.length ++ t).map brw).flatten])) : Cl B 28 [wp k, .str t] H Q := by
  have hk := lt_of_get hw
  refine f28_in fun n cl hn hcl hH hA => op_nil (op_fldP ?_)
  subst hcl
  rw [peekV hw (v := b) (i := 0 + 0) rfl, ob_some]
  refine Sl.live hb _ (f61_ok hb (by omega) ht ?_)
  have hne : (s ++ putF t.length ++ t).map brw ≠ [] := by simp [putF_ne]
  rw [growV_ne hne] at h ⊢
  refine live_slice _ (op_nil (op_fldP ?_))
  refine op_st (vs := [.slice (.new H.length) 0 ((s ++ putF t.length ++ t).map brw).length 1 none]) (c := [b, .bool wr]) rfl rfl (get_pre hw) (by simp) (tidy_none ?_)
  rw [set_pre hk]
  exact h _ List.length_set (fun j hj => get_set_ne (Ne.symm hj)) (get_set hk)

def numOk (x : Int) : Bool := decide (0 ≤ x) && decide (x ≤ 1099511627776)
/-- Memory while it runs: what was asked, the writer, and more. -/
structure St (B : Base) (H G : Heap) (row : List AV) (wi : Nat) (s : List UInt8) (wr : Bool) : Prop where
  pre : ∃ L, G = H ++ L
  req : G[H.length]? = some (.var row)
  wri : ∃ b, Wr G wi b wr ∧ Bs B G b s
  far : H.length < wi
theorem pre_of {G1 : Heap} {L : Heap} {k : Nat} (hl : G1.length = (H ++ L).length) (hk : H.length < k) (hg : ∀ j, j ≠ k → G1[j]? = (H ++ L)[j]?) : ∃ L1, G1 = H ++ L1 := by
  refine ⟨G1.drop H.length, ?_⟩
  have : G1.take H.length = H := by
    apply List.ext_getElem?
    intro j
    rw [List.getElem?_take]
    split
    · rename_i hj
      rw [hg j (by omega), List.getElem?_append_left hj]
    · rw [List.getElem?_eq_none (by omega)]
  conv => lhs; rw [← List.take_append_drop H.length G1, this]
variable {G : Heap} {row : List AV} {wi : Nat} {s t : List UInt8} {wr : Bool} {K : Heap → Prop}
theorem St.must {so : Bool} (h : St B H G row wi s wr) (hk : ∀ G', St B H G' row wi s (wr || !so) → K G') : Cl B 25 [wp wi, .bool so] G fun v G' => pLive v fun _ => K G' := by
  obtain ⟨⟨L, rfl⟩, hr, ⟨b, hw, hb⟩, hf⟩ := h
  have hlt := lt_of_get hw
  refine f25_ok hw (live_unit (hk _ ⟨pre_of (L := L) List.length_set hf fun j hj => get_set_ne (Ne.symm hj), ?_, ⟨b, get_set hlt, hb.set_wr hb hw⟩, hf⟩))
  rw [get_set_ne (by omega)]; exact hr
theorem St.text (h : St B H G row wi s wr) (hsz : s.length ≤ 4000) (ht : t.length ≤ 100000) (hk : ∀ G', St B H G' row wi (s ++ putF t.length ++ t) wr → K G') : Cl B 28 [wp wi, .str t] G fun v G' => pLive v fun _ => K G' := by
  obtain ⟨⟨L, rfl⟩, hr, ⟨b, hw, hb⟩, hf⟩ := h
  refine f28_ok hw hb hsz ht fun G1 hl hg hw1 => live_unit (hk _ ⟨?_, ?_, ⟨growV (H ++ L).length 1 ((s ++ putF t.length ++ t).map brw), ?_, ?_⟩, hf⟩)
  · obtain ⟨L1, hL1⟩ := pre_of hl hf hg
    exact ⟨L1 ++ _, by rw [hL1, List.append_assoc]⟩
  · have hlt := lt_of_get hr
    rw [get_low (by omega), hg _ (by omega)]; exact hr
  · exact get_pre hw1
  · exact growV_sl (by rw [← hl, get_app0]; rw [growO_ne (by simp [putF_ne])]; rfl) (brws_len _)
theorem St.num {x : Int} (h : St B H G row wi s wr) (hsz : s.length ≤ 4000) (hx : x ≤ 9223372036854775807) (hk : ∀ G', St B H G' row wi (s ++ putF x.toNat) (wr || !numOk x) → K G') : Cl B 29 [wp wi, .int .i64 x] G fun v G' => pLive v fun _ => K G' := by
  obtain ⟨⟨L, rfl⟩, hr, ⟨b, hw, hb⟩, hf⟩ := h
  refine f29_ok hw hb hx hsz fun G1 hl hg hw1 => live_unit (hk _ ⟨?_, ?_, ⟨growV (H ++ L).length 1 ((s ++ putF x.toNat).map brw), ?_, ?_⟩, hf⟩)
  · obtain ⟨L1, hL1⟩ := pre_of hl hf hg
    exact ⟨L1 ++ _, by rw [hL1, List.append_assoc]⟩
  · have hlt := lt_of_get hr
    rw [get_low (by omega), hg _ (by omega)]; exact hr
  · exact get_pre hw1
  · exact growV_sl (by rw [← hl, get_app0]; rw [growO_ne (by simp [putF_ne])]; rfl) (brws_len _)
/-- Its end. -/
theorem St.done {Q' : AV → Heap → Prop} (h : St B H G row wi s wr) (h1 : wr = true → Q' (.tuple [.nils, .int .i64 1]) G) (h2 : wr = false → ∀ v, Bs B G v s → Q' (.tuple [v, .int .i64 0]) G) : Cl B 30 [wp wi] G Q' := by
  obtain ⟨_, hr, ⟨b, hw, hb⟩, hf⟩ := h
  exact f30_ok hw (fun K hK => Sl.live hb K hK) h1 fun e => h2 e b hb
theorem St.fld {v : AV} {off : Nat} {K : AV → Heap → Prop} (h : St B H G row wi s wr) (hv : row[off]? = some v) (hk : peek B G (.ptr (some (.new H.length, off))) = some v → K (.ptr (some (.new H.length, off))) G) : aop B E0 G K (.fieldPtr off (.const (wp H.length))) := by
  refine op_fldP ?_
  rw [Nat.zero_add]
  exact hk (peekV h.req hv)
end

end Go.Am
