/- Readers,exactly: takes,number,text of the wire's reader. -/
import Derived.Test.YtdkgdkifeedcnaaWvB
namespace Go.Am
open Go
abbrev RS : Type := List UInt8 × Bool
def takesF (st : RS) (m : Nat) (ok : Bool) : RS := if (st.2 || !ok) = true then ([],true) else (st.1.drop m,false)
def numP (most : Nat) (st : RS) : Nat × RS :=
 let st' := takesF st (getF st.1).2.1 ((getF st.1).2.2 && decide ((getF st.1).1 ≤ (most : Int)))
 (if st'.2 = true then 0 else (getF st.1).1.toNat,st')
def textP (st : RS) : List UInt8 × RS :=
 let st' := takesF st (textF st.1).2.1 (textF st.1).2.2
 (if st'.2 = true then [] else (textF st.1).1,st')
theorem takesF_wr (st : RS) (m : Nat) (ok : Bool) : (takesF st m ok).2 = (st.2 || !ok) := by
 unfold takesF; split <;> simp_all
theorem takesF_le (st : RS) (m : Nat) (ok : Bool) : (takesF st m ok).1.length ≤ st.1.length := by
 unfold takesF; split
 ·exact Nat.zero_le _
 ·rw [List.length_drop]; omega
theorem numP_le (most : Nat) (st : RS) : (numP most st).1 ≤ most ∧ (numP most st).2.1.length ≤ st.1.length := by
 refine ⟨?_,takesF_le _ _ _⟩
 have h := takesF_wr st (getF st.1).2.1 ((getF st.1).2.2 && decide ((getF st.1).1 ≤ (most : Int)))
 simp only [numP]
 split
 ·exact Nat.zero_le _
 ·rename_i hw
  have h2 : ((getF st.1).2.2 && decide ((getF st.1).1 ≤ (most : Int))) = true := by
   cases e : ((getF st.1).2.2 && decide ((getF st.1).1 ≤ (most : Int))) with
   | true => rfl
   | false => rw [e] at h; rw [e] at hw; exact absurd (by rw [h]; simp) hw
  have h3 := of_decide_eq_true (Bool.and_eq_true_iff.1 h2).2
  have := (getF_ok st.1).1
  omega
theorem textP_le (st : RS) : (textP st).1.length ≤ st.1.length ∧ (textP st).2.1.length ≤ st.1.length := by
 refine ⟨?_,takesF_le _ _ _⟩
 simp only [textP]
 split
 ·exact Nat.zero_le _
 ·exact (textF_ok st.1).2
def pt (p : Nat) : AV := .ptr (some (.new p,0))
def RdR (B : Base) (H : Heap) (C : Nat → Option AObj) (p : Nat) (st : RS) : Prop := ∃ bv,C p = some (.var [bv,.bool st.2]) ∧ H.length ≤ p ∧ Bs B H bv st.1 ∧ capOK bv
def Keeps1 (C C' : Nat → Option AObj) (p : Nat) : Prop := ∀ q o,q ≠ p → C q = some o → C' q = some o
def RdK (B : Base) (H G : Heap) (C : Nat → Option AObj) (p : Nat) (st : RS) (P : Heap → (Nat → Option AObj) → Prop) : Prop := ∀ G' C',KW H G' C' → Keeps1 C C' p → RdR B H C' p st → G.length ≤ G'.length → P G' C'
section
variable {B : Base} {n : Nat} {H G : Heap} {C : Nat → Option AObj} {Q : AV → Heap → Prop} {p : Nat} {st : RS}
theorem live_pt' {K : AV → Prop} (h : K (pt p)) : pLive (pt p) K := h
theorem Keeps1.refl : Keeps1 C C p := fun _ _ _ h => h
theorem Keeps1.upd {C' : Nat → Option AObj} {o : AObj} (h : Keeps1 C C' p) : Keeps1 C (updC C' p o) p := fun q o' hq hc => by rw [updC_ne hq]; exact h q o' hq hc
theorem Keeps1.trans {C' C'' : Nat → Option AObj} (h : Keeps1 C C' p) (h2 : Keeps1 C' C'' p) : Keeps1 C C'' p := fun q o hq hc => h2 q o hq (h q o hq hc)
theorem bs_nil : Bs B H .nils [] := Bs.nil
theorem cap_nil : capOK .nils := fun o off len es c e => by cases e
theorem bs_cells {v : AV} {s : List UInt8} (h : Bs B H v s) : v.cells? = some [v] := by
 obtain ⟨_,⟨rfl,_⟩ | ⟨o,off,cap,rfl,_⟩⟩ := h <;> rfl
theorem KW.bs {v : AV} {s : List UInt8} (h : KW H G C) (hb : Bs B H v s) : Bs B G v s := by
 obtain ⟨⟨L,rfl⟩,_⟩ := h; exact hb.pre
theorem KW.le (h : KW H G C) : H.length ≤ G.length := by obtain ⟨⟨L,rfl⟩,_⟩ := h; rw [List.length_append]; omega
theorem bs_drop {v : AV} {s : List UInt8} {m : Nat} (h : Bs B H v s) (hc : capOK v) (hm : m ≤ s.length) : ∃ v',sliceOf 1 v (m : Int) (s.length : Int) = some v' ∧ Bs B H v' (s.drop m) ∧ capOK v' := by
 obtain ⟨v',s1,s2,s3⟩ := cut_of (bs_rows h) hc (a := m) (b := s.length) hm (by rw [List.length_map]; exact Nat.le_refl _)
 rw [brw_take,List.take_of_length_le (by rw [List.length_drop]; exact Nat.le_refl _)] at s2
 exact ⟨v',s1,s2,s3⟩
theorem f79_ok {ok : Bool} {m : Nat} (h : KW H G C) (hr : RdR B H C p st) (hm : ok = true → m ≤ st.1.length)
  (hq : RdK B H G C p (takesF st m ok) fun G' _ => Q (.bool (!(takesF st m ok).2)) G') : Cl B 79 [pt p,.int .i64 (m : Int),.bool ok] G Q := by
 obtain ⟨s,w⟩ := st
 obtain ⟨bv,hc,hp,hb,hcap⟩ := hr
 simp only at hc hb hm
 have hg := h.cs p _ hc
 refine f79_in fun n cl hn hcl hH hA => J79_2_in (op_nil (op_fldP ?_))
 rw [peekV hg (v := .bool w) rfl,ob_some,pBool_bool]
 have next : ∀ w' : Bool,w' = (w || !ok) → J79_0 B cl n (pt p) (m : Int) (G.set p (.var [bv,.bool w'])) Q := fun w' hw' => by
  have h2 := h.set hc hp (.var [bv,.bool w'])
  have hg2 := h2.cs p _ updC_at
  refine J79_0_in (op_nil (op_fldP ?_))
  rw [peekV hg2 (v := .bool w') rfl,ob_some,pBool_bool]
  refine bs_iff.2 ⟨fun ht => op_nil (op_fldP ?_),fun hf => J79_1_in (op_nil (op_fldP ?_))⟩
  ·refine op_st (c := [bv,.bool w']) (vs := [.nils]) rfl rfl hg2 (by simp) (tidy_none ?_)
   have h3 := h2.set updC_at hp (.var (putAt [bv,.bool w'] (0 + 0) [.nils]))
   have et : takesF (s,w) m ok = ([],true) := by unfold takesF; rw [if_pos (by rw [← ht,hw'])]
   rw [et] at hq
   have := hq _ _ h3 Keeps1.refl.upd.upd ⟨.nils,by rw [updC_at,ht]; rfl,hp,bs_nil,cap_nil⟩ (by simp)
   exact this
  ·rw [peekV hg2 (v := bv) rfl,ob_some]
   have hok : ok = true := by
    have e1 : (w || !ok) = false := by rw [← hw',hf]
    have e2 := (Bool.or_eq_false_iff.1 e1).2
    cases hok : ok with
    | true => rfl
    | false => rw [hok] at e2; cases e2
   obtain ⟨v',s1,s2,s3⟩ := bs_drop hb hcap (hm hok)
   refine Sl.live (h2.bs hb) _ (op_sl2 (h2.bs hb).len s1 (op_nil (op_fldP ?_)))
   refine op_st (c := [bv,.bool w']) (vs := [v']) (bs_cells s2) rfl hg2 (by simp) (tidy_none ?_)
   have h3 := h2.set updC_at hp (.var (putAt [bv,.bool w'] (0 + 0) [v']))
   have et : takesF (s,w) m ok = (s.drop m,false) := by unfold takesF; rw [if_neg (by rw [← hw',hf]; decide)]
   rw [et] at hq
   have := hq _ _ h3 Keeps1.refl.upd.upd ⟨v',by rw [updC_at,hf]; rfl,hp,s2,s3⟩ (by simp)
   exact this
 refine bs_iff.2 ⟨fun hw => op_nil (op_fldP ?_),fun hw => op_notB (op_nil (op_fldP ?_))⟩
 ·refine op_st (c := [bv,.bool w]) (vs := [.bool true]) rfl rfl hg (by simp) ?_
  exact next true (by rw [hw]; rfl)
 ·refine op_st (c := [bv,.bool w]) (vs := [.bool (!ok)]) rfl rfl hg (by simp) ?_
  exact next (!ok) (by rw [hw]; rfl)
theorem op_extU {K : AV → Heap → Prop} {l : List AV} {i : Nat} {m : Int} (h : l[i]? = some (.int .u64 m)) (hk : K (.int .u64 m) G) : aop B E0 G K (.extract (some (.int .u64)) i (.const (.tuple l))) := by
 simp only [aop,opK,Opd.look,ob_some,h,extK,tyK]
 rw [pInt_int]; exact hk
theorem f51_ok {most : Nat} (h : KW H G C) (hr : RdR B H C p st) (hmost : (most : Int) < 9223372036854775807) (hq : RdK B H G C p (numP most st).2 fun G' _ => Q (.int .i64 ((numP most st).1 : Int)) G') : Cl B 51 [pt p,.int .i64 (most : Int)] G Q := by
 have hr0 := hr
 obtain ⟨bv,hc,hp,hb,hcap⟩ := hr
 have hg := h.cs p _ hc
 obtain ⟨k1,k2,k3,k4⟩ := getF_ok st.1
 refine f51_in fun n cl hn hcl hH hA => op_nil (op_fldP ?_)
 subst hcl
 rw [peekV hg (v := bv) rfl,ob_some]
 have hbG := h.bs hb
 refine Sl.live hbG _ (f81_ok hbG (live_tuple (op_extU rfl (op_extI rfl ?_))))
 refine op_extB (b := (getF st.1).2.2) rfl ?_
 rw [pGuard_bool]
 have ew : IntKind.u64.wrap (most : Int) = (most : Int) := by
  simp only [IntKind.wrap,IntKind.bits,IntKind.signed]
  simp; omega
 have fin : ∀ ok : Bool,ok = ((getF st.1).2.2 && decide ((getF st.1).1 ≤ (most : Int))) → Cl B 79 [pt p,.int .i64 ((getF st.1).2.1 : Int),.bool ok] G fun v14 H15 => pBool v14 fun b16 => bs (b16) (pInt .u64 (.int .u64 (getF st.1).1) fun n17 => tidyK n Q (.int .i64 (IntKind.i64.wrap (n17))) H15) (tidyK n Q (.int .i64 (0)) H15) := fun ok hok => by
  refine f79_ok h hr0 (fun _ => k3) ?_
  intro G' C' a1 a2 a3 a4
  have e0 : (numP most st).2 = takesF st (getF st.1).2.1 ok := by rw [hok]; rfl
  have e1 : (numP most st).1 = if (takesF st (getF st.1).2.1 ok).2 = true then 0 else (getF st.1).1.toNat := by rw [hok]; rfl
  rw [e0,e1] at hq
  rw [pBool_bool]
  refine bs_iff.2 ⟨fun ht => ?_,fun hf => ?_⟩
  ·have hw : (takesF st (getF st.1).2.1 ok).2 = false := by simpa using ht
   have := hq G' C' a1 a2 a3 a4
   rw [hw,if_neg (by decide)] at this
   have hle : (getF st.1).1 ≤ (most : Int) := by
    rw [takesF_wr,hok] at hw
    have h2 := (Bool.or_eq_false_iff.1 hw).2
    exact of_decide_eq_true (Bool.and_eq_true_iff.1 (by simpa using h2)).2
   rw [pInt_int,w64 (by omega)]
   have e3 : (((getF st.1).1.toNat : Nat) : Int) = (getF st.1).1 := by omega
   rw [e3] at this
   exact tidy_none this
  ·have hw : (takesF st (getF st.1).2.1 ok).2 = true := by simpa using hf
   have := hq G' C' a1 a2 a3 a4
   rw [hw,if_pos rfl] at this
   exact tidy_none this
 refine bs_iff.2 ⟨fun hok => ?_,fun hno => ?_⟩
 ·rw [pInt_int,ew]
  exact ib_le (fin _ (by rw [hok,Bool.true_and]))
 ·exact fin false (by rw [hno,Bool.false_and])
theorem f50_ok (h : KW H G C) (hr : RdR B H C p st) (hNN : st.1.length ≤ 1000000) (hq : RdK B H G C p (textP st).2 fun G' _ => Q (.str (textP st).1) G') : Cl B 50 [pt p] G Q := by
 have hr0 := hr
 obtain ⟨bv,hc,hp,hb,hcap⟩ := hr
 have hg := h.cs p _ hc
 obtain ⟨k1,k2⟩ := textF_ok st.1
 refine f50_in fun n cl hn hcl hH hA => op_nil (op_fldP ?_)
 subst hcl
 rw [peekV hg (v := bv) rfl,ob_some]
 have hbG := h.bs hb
 refine Sl.live hbG _ (f80_ok hbG hcap (by omega) (live_tuple (op_extS rfl (op_extI rfl ?_))))
 refine op_extB (b := (textF st.1).2.2) rfl ?_
 refine f79_ok h hr0 (fun _ => k1) ?_
 intro G' C' a1 a2 a3 a4
 have := hq G' C' a1 a2 a3 a4
 simp only [textP] at this
 rw [pBool_bool]
 refine bs_iff.2 ⟨fun ht => ?_,fun hf => ?_⟩
 ·rw [if_neg (by simpa using ht)] at this; exact tidy_none this
 ·rw [if_pos (by simpa using hf)] at this; exact tidy_none this
end
end Go.Am
namespace Go.Am
open Go
def EdK (H : Heap) (C : Nat → Option AObj) (p : Nat) (bv : AV) (a : Nat) (w : Bool) (P : Heap → Prop) : Prop := ∀ G' C',KW H G' C' → Keeps1 C C' p → C' p = some (.var [bv,.int .i64 (a : Int),.bool w]) → P G'
section
variable {B : Base} {n : Nat} {H G : Heap} {C : Nat → Option AObj} {Q : AV → Heap → Prop} {p N : Nat}
theorem f98_ok {bv : AV} {w : Bool} {s : List UInt8} {at' : Nat} (h : KW H G C) (hc : C p = some (.var [bv,.int .i64 (at' : Int),.bool w])) (hp : H.length ≤ p) (hb : Bs B H bv s) (hcap : capOK bv) (hat : at' ≤ s.length) (hs : s.length ≤ 1000000)
  (hq : EdK H C p bv (at' + (getF (s.drop at')).2.1) (w || !(getF (s.drop at')).2.2) fun G' => Q (.int .u64 (getF (s.drop at')).1) G') : Cl B 98 [pt p] G Q := by
 have hg := h.cs p _ hc
 obtain ⟨k1,k2,k3,k4⟩ := getF_ok (s.drop at')
 rw [List.length_drop] at k3
 refine f98_in fun n cl hn hcl hH hA => J98_3_in (op_nil (op_fldP ?_))
 subst hcl
 rw [peekV hg (v := bv) rfl,ob_some]
 have hbG := h.bs hb
 refine Sl.live hbG _ (op_nil (op_fldP ?_))
 rw [peekV hg (v := .int .i64 (at' : Int)) rfl,ob_some,pInt_int]
 obtain ⟨v',s1,s2,s3⟩ := bs_drop hbG hcap hat
 refine op_sl2 hbG.len s1 ?_
 refine f81_ok s2 (live_tuple (op_extU rfl (op_extI rfl ?_)))
 refine op_extB (b := (getF (s.drop at')).2.2) rfl (J98_2_in (op_nil (op_fldP ?_)))
 rw [peekV hg (v := .int .i64 (at' : Int)) rfl,ob_some,pInt_int,pInt_int]
 refine op_nil (op_fldP ?_)
 rw [w64 (by omega)]
 have ea : (at' : Int) + ((getF (s.drop at')).2.1 : Int) = ((at' + (getF (s.drop at')).2.1 : Nat) : Int) := by omega
 rw [ea]
 refine op_st (c := [bv,.int .i64 (at' : Int),.bool w]) (vs := [.int .i64 ((at' + (getF (s.drop at')).2.1 : Nat) : Int)]) rfl rfl hg (by simp) (J98_1_in ?_)
 have h2 := h.set hc hp (.var [bv,.int .i64 ((at' + (getF (s.drop at')).2.1 : Nat) : Int),.bool w])
 have hg2 := h2.cs p _ updC_at
 rw [show putAt [bv,.int .i64 (at' : Int),.bool w] (0 + 1) [.int .i64 ((at' + (getF (s.drop at')).2.1 : Nat) : Int)] = [bv,.int .i64 ((at' + (getF (s.drop at')).2.1 : Nat) : Int),.bool w] from rfl]
 refine op_nil (op_fldP ?_)
 rw [peekV hg2 (v := .bool w) rfl,ob_some,pBool_bool]
 have fin : ∀ b : Bool,b = (w || !(getF (s.drop at')).2.2) → J98_0 B (Cl B) n (.int .u64 (getF (s.drop at')).1) ((G.set p (.var [bv,.int .i64 ((at' + (getF (s.drop at')).2.1 : Nat) : Int),.bool w])).set p (.var [bv,.int .i64 ((at' + (getF (s.drop at')).2.1 : Nat) : Int),.bool b])) Q := fun b hb' => by
  subst hb'
  refine J98_0_in (tidy_none ?_)
  have h3 := h2.set updC_at hp (.var [bv,.int .i64 ((at' + (getF (s.drop at')).2.1 : Nat) : Int),.bool (w || !(getF (s.drop at')).2.2)])
  exact hq _ _ h3 Keeps1.refl.upd.upd updC_at
 refine bs_iff.2 ⟨fun hw1 => op_nil (op_fldP ?_),fun hw1 => op_notB (op_nil (op_fldP ?_))⟩
 ·exact op_st (c := [bv,.int .i64 ((at' + (getF (s.drop at')).2.1 : Nat) : Int),.bool w]) (vs := [.bool true]) rfl rfl hg2 (by simp) (fin true (by rw [hw1]; rfl))
 ·exact op_st (c := [bv,.int .i64 ((at' + (getF (s.drop at')).2.1 : Nat) : Int),.bool w]) (vs := [.bool (!(getF (s.drop at')).2.2)]) rfl rfl hg2 (by simp) (fin _ (by rw [hw1]; rfl))
theorem f99_ok {bv : AV} {w : Bool} {s : List UInt8} {at' : Nat} (h : KW H G C) (hc : C p = some (.var [bv,.int .i64 (at' : Int),.bool w])) (hp : H.length ≤ p) (hb : Bs B H bv s) (hcap : capOK bv) (hat : at' ≤ s.length) (hs : s.length ≤ 1000000)
  (hq : EdK H C p bv (at' + (textF (s.drop at')).2.1) (w || !(textF (s.drop at')).2.2) fun G' => Q (.str (textF (s.drop at')).1) G') : Cl B 99 [pt p] G Q := by
 have hg := h.cs p _ hc
 obtain ⟨k3,_⟩ := textF_ok (s.drop at')
 rw [List.length_drop] at k3
 refine f99_in fun n cl hn hcl hH hA => J99_3_in (op_nil (op_fldP ?_))
 subst hcl
 rw [peekV hg (v := bv) rfl,ob_some]
 have hbG := h.bs hb
 refine Sl.live hbG _ (op_nil (op_fldP ?_))
 rw [peekV hg (v := .int .i64 (at' : Int)) rfl,ob_some,pInt_int]
 obtain ⟨v',s1,s2,s3⟩ := bs_drop hbG hcap hat
 refine op_sl2 hbG.len s1 ?_
 refine f80_ok s2 s3 (by rw [List.length_drop]; omega) (live_tuple (op_extS rfl (op_extI rfl ?_)))
 refine op_extB (b := (textF (s.drop at')).2.2) rfl (J99_2_in (op_nil (op_fldP ?_)))
 rw [peekV hg (v := .int .i64 (at' : Int)) rfl,ob_some,pInt_int,pInt_int]
 refine op_nil (op_fldP ?_)
 rw [w64 (by omega)]
 have ea : (at' : Int) + ((textF (s.drop at')).2.1 : Int) = ((at' + (textF (s.drop at')).2.1 : Nat) : Int) := by omega
 rw [ea]
 refine op_st (c := [bv,.int .i64 (at' : Int),.bool w]) (vs := [.int .i64 ((at' + (textF (s.drop at')).2.1 : Nat) : Int)]) rfl rfl hg (by simp) (J99_1_in ?_)
 have h2 := h.set hc hp (.var [bv,.int .i64 ((at' + (textF (s.drop at')).2.1 : Nat) : Int),.bool w])
 have hg2 := h2.cs p _ updC_at
 rw [show putAt [bv,.int .i64 (at' : Int),.bool w] (0 + 1) [.int .i64 ((at' + (textF (s.drop at')).2.1 : Nat) : Int)] = [bv,.int .i64 ((at' + (textF (s.drop at')).2.1 : Nat) : Int),.bool w] from rfl]
 refine op_nil (op_fldP ?_)
 rw [peekV hg2 (v := .bool w) rfl,ob_some,pBool_bool]
 have fin : ∀ b : Bool,b = (w || !(textF (s.drop at')).2.2) → J99_0 B (Cl B) n (.str (textF (s.drop at')).1) ((G.set p (.var [bv,.int .i64 ((at' + (textF (s.drop at')).2.1 : Nat) : Int),.bool w])).set p (.var [bv,.int .i64 ((at' + (textF (s.drop at')).2.1 : Nat) : Int),.bool b])) Q := fun b hb' => by
  subst hb'
  refine J99_0_in (tidy_none ?_)
  have h3 := h2.set updC_at hp (.var [bv,.int .i64 ((at' + (textF (s.drop at')).2.1 : Nat) : Int),.bool (w || !(textF (s.drop at')).2.2)])
  exact hq _ _ h3 Keeps1.refl.upd.upd updC_at
 refine bs_iff.2 ⟨fun hw1 => op_nil (op_fldP ?_),fun hw1 => op_notB (op_nil (op_fldP ?_))⟩
 ·exact op_st (c := [bv,.int .i64 ((at' + (textF (s.drop at')).2.1 : Nat) : Int),.bool w]) (vs := [.bool true]) rfl rfl hg2 (by simp) (fin true (by rw [hw1]; rfl))
 ·exact op_st (c := [bv,.int .i64 ((at' + (textF (s.drop at')).2.1 : Nat) : Int),.bool w]) (vs := [.bool (!(textF (s.drop at')).2.2)]) rfl rfl hg2 (by simp) (fin _ (by rw [hw1]; rfl))
end
end Go.Am
namespace Go.Am
open Go
def zrow : List AV := [.str [],.str [],.bool false,.int .i64 0]
def zent : Ent := ⟨[],[],false,0⟩
section
variable {B : Base} {n : Nat} {H G : Heap} {C : Nat → Option AObj} {Q : AV → Heap → Prop} {p N : Nat}
theorem int_u {v : Int} {K : Int → Prop} (h : K v) : pInt .u64 (.int .u64 v) K := by rw [pInt_int]; exact h
theorem str_u {v : List UInt8} {K : List UInt8 → Prop} (h : K v) : pStr (.str v) K := by rw [pStr_str]; exact h
def parseB (s : List UInt8) (dl : Bool) (g : Int × Nat × Bool) (t : List UInt8 × Nat × Bool) : Ent × Nat × Bool :=
 if dl = true then (⟨t.1,[],dl,IntKind.i64.wrap (minInts g.1 [1099511627777])⟩,1 + g.2.1 + t.2.1,!g.2.2 || !t.2.2)
 else (⟨t.1,(textF (s.drop (1 + g.2.1 + t.2.1))).1,dl,IntKind.i64.wrap (minInts g.1 [1099511627777])⟩,1 + g.2.1 + t.2.1 + (textF (s.drop (1 + g.2.1 + t.2.1))).2.1,(!g.2.2 || !t.2.2) || !(textF (s.drop (1 + g.2.1 + t.2.1))).2.2)
def parseA (s : List UInt8) (c0 : UInt8) : Ent × Nat × Bool := parseB s (decide ((c0.toNat : Int) = 1)) (getF (s.drop 1)) (textF (s.drop (1 + (getF (s.drop 1)).2.1)))
def parseE (a : Ent × Nat × Bool) : Ent × Nat × Int := if a.2.2 = true ∨ entR a.1 = false then (zent,0,2) else (a.1,a.2.1,0)
def parseF (s : List UInt8) : Ent × Nat × Int :=
 match s with
 | [] => (zent,0,2)
 | c0 :: r => if c0.toNat > 1 then (zent,0,2) else parseE (parseA (c0 :: r) c0)
theorem parseF_le (s : List UInt8) : (parseF s).2.1 ≤ s.length := by
 unfold parseF
 split
 ·exact Nat.zero_le _
 ·rename_i c0 r
  split
  ·exact Nat.zero_le _
  ·have h1 := (getF_ok ((c0 :: r).drop 1)).2.2.1
   rw [List.length_drop] at h1
   have h2 := (textF_ok ((c0 :: r).drop (1 + (getF ((c0 :: r).drop 1)).2.1))).1
   rw [List.length_drop] at h2
   have h4 : 1 ≤ (c0 :: r).length := by simp
   have h5 : (parseA (c0 :: r) c0).2.1 ≤ (c0 :: r).length := by
    unfold parseA
    generalize getF ((c0 :: r).drop 1) = g at h1 h2 ⊢
    generalize textF ((c0 :: r).drop (1 + g.2.1)) = t at h2 ⊢
    have h3 := (textF_ok ((c0 :: r).drop (1 + g.2.1 + t.2.1))).1
    rw [List.length_drop] at h3
    unfold parseB
    split
    ·show 1 + g.2.1 + t.2.1 ≤ _
     omega
    ·show 1 + g.2.1 + t.2.1 + _ ≤ _
     omega
   unfold parseE
   split
   ·exact Nat.zero_le _
   ·exact h5
def PaQ (H : Heap) (s : List UInt8) (Q : AV → Heap → Prop) : Prop := ∀ L,Q (.tuple [.agg (parseF s).1.row,.int .i64 ((parseF s).2.1 : Int),.int .i64 (parseF s).2.2]) (H ++ L)
theorem pa_bad {x2 : Nat} {c2 : List AV} (h : KW H G C) (h2 : C x2 = some (.var c2)) (hl : c2.length = 4) (hH : H.length ≤ x2) {s : List UInt8} (hp : parseF s = (zent,0,2)) (hq : PaQ H s Q) :
  ob (layParts [(.str []),(.str []),(.bool false),(.int .i64 0)] []) fun c9 => (aop B E0 G (fun v10 H11 => ob (peekN B H11 4 (pt x2)) fun c12 => tidyK n Q (.tuple [.agg c12,.int .i64 (0),.int .i64 (2)]) H11) (.st 4 (.const (pt x2)) (.const (.agg c9)))) := by
 rw [show layParts [(.str []),(.str []),(.bool false),(.int .i64 0)] [] = some zent.row from rfl,ob_some]
 refine op_st (c := c2) (vs := zent.row) rfl rfl (h.cs x2 _ h2) (by omega) ?_
 have h3 := h.set h2 hH (.var zent.row)
 rw [putAt_all (by rw [hl]; rfl),show peekN B (G.set x2 (.var zent.row)) 4 (pt x2) = some zent.row from peekVN (h3.cs x2 _ updC_at) rfl,ob_some]
 obtain ⟨L,hL⟩ := h3.pre
 refine tidy_none ?_
 rw [hL]
 have := hq L
 rw [hp] at this
 exact this
theorem pa_main {x0 : AV} {s : List UInt8} {x2 : Nat} {G1 : Heap} {C1 : Nat → Option AObj} (hb : Bs B H x0 s) (hcap : capOK x0) (hs : s.length ≤ 1000000) (k1 : KW H G1 C1) (c2 : C1 x2 = some (.var zrow)) (hx2l : H.length ≤ x2) (hq : PaQ H s Q) : J78_8 B (Cl B) n x0 (pt x2) G1 Q := by
 refine J78_8_in ?_
 have bad : parseF s = (zent,0,2) → J78_0 B (Cl B) n x0 (pt x2) (.bool true) G1 Q := fun hpz => by
  refine J78_0_in ?_
  rw [pBool_bool,if_pos rfl]
  exact pa_bad k1 c2 rfl hx2l hpz hq
 have hbG := k1.bs hb
 rw [hb.len,ob_some]
 cases s with
 | nil => exact bs_yes rfl (bad rfl)
 | cons c0 rest =>
  refine bs_no (by simp; omega) ?_
  have hi0 : ((0 : Nat) : Int) = 0 := rfl
  refine (op_idxB (i := 0) (c := c0) hbG rfl fun hpk => ?_ : aop B E0 G1 _ (.indexPtr 1 (.const x0) (.const (.int .i64 ((0 : Nat) : Int)))))
  rw [hpk,ob_some,pInt_int]
  refine ib_gt (J78_0_in ?_)
  rw [pBool_bool]
  split
  ·rename_i hgt
   have hgt := of_decide_eq_true hgt
   exact pa_bad k1 c2 rfl hx2l (by simp only [parseF]; rw [if_pos (by omega)]) hq
  rename_i hgt
  have hgt' : ¬ c0.toNat > 1 := fun h => hgt (decide_eq_true (by omega))
  have hpf : parseF (c0 :: rest) = parseE (parseB (c0 :: rest) (decide ((c0.toNat : Int) = 1)) (getF ((c0 :: rest).drop 1)) (textF ((c0 :: rest).drop (1 + (getF ((c0 :: rest).drop 1)).2.1)))) := by
   simp only [parseF]; rw [if_neg hgt']; rfl
  refine J78_7_in ?_
  rw [show layParts [.nils,(.int .i64 0),(.bool false)] [(0,1,x0),(1,1,.int .i64 (1))] = some [x0,.int .i64 1,.bool false] from by simp only [layParts,bs_cells hb]; rfl,ob_some]
  refine op_box rfl rfl ?_
  have k2 := k1.add (.var [x0,.int .i64 ((1 : Nat) : Int),.bool false])
  have hfree : C1 G1.length = none := by
   cases e : C1 G1.length with
   | none => rfl
   | some o => have := k1.lt e; omega
  have hx2G := k1.lt c2
  have c2' : updC C1 G1.length (.var [x0,.int .i64 ((1 : Nat) : Int),.bool false]) x2 = some (.var zrow) := by rw [updC_ne (by omega)]; exact c2
  have hHG : H.length ≤ G1.length := by omega
  show J78_6 B (Cl B) n x0 (pt x2) (pt G1.length) (G1 ++ [.var [x0,.int .i64 ((1 : Nat) : Int),.bool false]]) Q
  have c5 : updC C1 G1.length (.var [x0,.int .i64 ((1 : Nat) : Int),.bool false]) G1.length = some (.var [x0,.int .i64 ((1 : Nat) : Int),.bool false]) := updC_at
  generalize updC C1 G1.length (.var [x0,.int .i64 ((1 : Nat) : Int),.bool false]) = C2 at k2 c2' c5
  generalize hx5 : G1.length = x5 at *
  generalize G1 ++ [AObj.var [x0,.int .i64 ((1 : Nat) : Int),.bool false]] = G2 at k2 ⊢
  have hne : x2 ≠ x5 := by omega
  refine J78_6_in (f98_ok k2 c5 (by omega) hb hcap (by simp) hs fun G3 C3 k3 e3 c53 => ?_)
  have c23 := e3 x2 _ hne c2'
  have ha3 : 1 + (getF ((c0 :: rest).drop 1)).2.1 ≤ (c0 :: rest).length := by
   have := (getF_ok ((c0 :: rest).drop 1)).2.2.1
   rw [List.length_drop] at this
   have : 1 ≤ (c0 :: rest).length := by simp
   omega
  rw [Bool.false_or] at c53
  generalize hg : getF ((c0 :: rest).drop 1) = gr at hpf c53 ha3 ⊢
  refine int_u ?_
  have hb3 := k3.bs hb
  refine J78_5_in ((op_idxB (i := 0) (c := c0) hb3 rfl fun hpk3 => ?_ : aop B E0 G3 _ (.indexPtr 1 (.const x0) (.const (.int .i64 ((0 : Nat) : Int))))))
  rw [hpk3,ob_some,pInt_int]
  refine ib_eq (f99_ok k3 c53 (by omega) hb hcap ha3 hs fun G4 C4 k4 e4 c54 => ?_)
  have c24 := e4 x2 _ hne c23
  have ha4 : 1 + gr.2.1 + (textF ((c0 :: rest).drop (1 + gr.2.1))).2.1 ≤ (c0 :: rest).length := by
   have := (textF_ok ((c0 :: rest).drop (1 + gr.2.1))).1
   rw [List.length_drop] at this
   omega
  generalize ht : textF ((c0 :: rest).drop (1 + gr.2.1)) = tr at hpf c54 ha4 ⊢
  obtain ⟨t,tn,tok⟩ := tr
  obtain ⟨v,vn,vok⟩ := gr
  dsimp only at hpf c54 ha4 ⊢
  generalize ha4e : 1 + vn + tn = a4 at c54 ha4
  generalize hw4e : (!vok || !tok) = w4 at c54
  have hb4 := k4.bs hb
  refine str_u ?_
  refine ⟨rfl,rfl,rfl,ib_eq rfl,?_,(op_idxB (i := 0) (c := c0) hb4 rfl fun _ => rfl : aop B E0 G4 _ (.indexPtr 1 (.const x0) (.const (.int .i64 ((0 : Nat) : Int))))),rfl,?_⟩
  ·have hpk4 : peek B G4 (ept 1 x0 0) = some (.int .u8 (c0.toNat : Int)) := by
    have hr : ((c0 :: rest).map brw)[0]? = some (brw c0) := rfl
    exact ((bs_rows hb4).el hr).peek0 rfl
   rw [hpk4,ob_some,pInt_int]
  generalize hw : IntKind.i64.wrap (minInts v [1099511627777]) = sq
  generalize hdl : decide ((c0.toNat : Int) = 1) = dl
  rw [hdl] at hpf
  simp only [parseB,hw,ha4e,hw4e] at hpf
  rw [show layParts [(.str []),(.str []),(.bool false),(.int .i64 0)] [(0,1,.str t),(2,1,.bool dl),(3,1,.int .i64 sq)] = some (Ent.row ⟨t,[],dl,sq⟩) from rfl,ob_some]
  refine op_alloc (op_st_last rfl rfl (J78_4_in ?_))
  have k5 := k4.add (.var (Ent.row ⟨t,[],dl,sq⟩))
  have hx2G4 := k4.lt c24
  have hx5G4 := k4.lt c54
  have hH4 : H.length ≤ G4.length := by omega
  have c25 : updC C4 G4.length (.var (Ent.row ⟨t,[],dl,sq⟩)) x2 = some (.var zrow) := by rw [updC_ne (by omega)]; exact c24
  have c55 : updC C4 G4.length (.var (Ent.row ⟨t,[],dl,sq⟩)) x5 = some (.var [x0,.int .i64 (a4 : Int),.bool w4]) := by rw [updC_ne (by omega)]; exact c54
  have c75 : updC C4 G4.length (.var (Ent.row ⟨t,[],dl,sq⟩)) G4.length = some (.var (Ent.row ⟨t,[],dl,sq⟩)) := updC_at
  change aop B E0 (G4 ++ [.var (Ent.row ⟨t,[],dl,sq⟩)]) _ (.fieldPtr 2 (.const (pt G4.length)))
  generalize updC C4 G4.length (.var (Ent.row ⟨t,[],dl,sq⟩)) = C5 at k5 c25 c55 c75
  generalize hx7 : G4.length = x7 at *
  generalize G4 ++ [AObj.var (Ent.row ⟨t,[],dl,sq⟩)] = G5 at k5 ⊢
  have fin : ∀ (e : Ent) (G : Heap) (C : Nat → Option AObj) (a : Nat) (w : Bool),KW H G C → C x2 = some (.var zrow) → C x5 = some (.var [x0,.int .i64 (a : Int),.bool w]) → C x7 = some (.var e.row) → parseF (c0 :: rest) = parseE (e,a,w) → J78_3 B (Cl B) n (pt x2) (pt x5) (pt x7) G Q := fun e G C a w k d2 d5 d7 hpe => by
   have badG : (w = true ∨ entR e = false) → J78_1 B (Cl B) n (pt x2) (pt x5) (pt x7) (.bool true) G Q := fun hwe => by
    refine J78_1_in ?_
    rw [pBool_bool,if_pos rfl]
    exact pa_bad k d2 rfl hx2l (by rw [hpe]; exact if_pos hwe) hq
   refine J78_3_in (op_nil (op_fldP ?_))
   rw [peekV (k.cs x5 _ d5) (v := .bool w) rfl,ob_some,pBool_bool]
   refine bs_iff.2 ⟨fun hwt => badG (.inl hwt),fun hwf => ?_⟩
   rw [show peekN B G 4 (pt x7) = some e.row from peekVN (k.cs x7 _ d7) rfl,ob_some]
   refine f59_ok (tyK_bool (op_notB ?_))
   cases hr : entR e with
   | false => exact badG (.inr hr)
   | true =>
    refine J78_1_in ?_
    rw [pBool_bool,if_neg (by decide)]
    refine J78_2_in ?_
    rw [show peekN B G 4 (pt x7) = some e.row from peekVN (k.cs x7 _ d7) rfl,ob_some]
    refine op_nil (op_fldP ?_)
    rw [peekV (k.cs x5 _ d5) (v := .int .i64 (a : Int)) rfl,ob_some,pInt_int]
    refine op_st (c := zrow) (vs := e.row) rfl rfl (k.cs x2 _ d2) (by simp [zrow,Ent.row]) ?_
    have k' := k.set d2 hx2l (.var e.row)
    have d5' : updC C x2 (.var e.row) x5 = some (.var [x0,.int .i64 (a : Int),.bool w]) := by rw [updC_ne (Ne.symm hne)]; exact d5
    rw [putAt_all (show zrow.length = e.row.length from rfl)]
    refine ⟨?_,op_fldP rfl,op_nil rfl,rfl,?_⟩
    ·rw [peekV (k'.cs x5 _ d5') (v := .int .i64 (a : Int)) rfl,ob_some,pInt_int]
    rw [show peekN B (G.set x2 (.var e.row)) 4 (pt x2) = some e.row from peekVN (k'.cs x2 _ updC_at) rfl,ob_some]
    obtain ⟨L,hL⟩ := k'.pre
    refine tidy_none ?_
    rw [hL]
    have := hq L
    rw [hpe,show parseE (e,a,w) = (e,a,0) from if_neg (by rw [hwf,hr]; simp)] at this
    exact this
  refine op_fldP ?_
  rw [peekV (k5.cs x7 _ c75) (v := .bool dl) rfl,ob_some,pBool_bool]
  refine bs_iff.2 ⟨fun hd => fin _ G5 C5 a4 w4 k5 c25 c55 c75 (by rw [hpf,hd]; simp),fun hd => ?_⟩
  refine f99_ok k5 c55 (by omega) hb hcap ha4 hs fun G6 C6 k6 e6 c56 => ?_
  refine str_u ?_
  have c76 := e6 x7 _ (by omega) c75
  have c26 := e6 x2 _ hne c25
  refine op_fldP ?_
  refine op_st (c := Ent.row ⟨t,[],dl,sq⟩) (vs := [.str (textF ((c0 :: rest).drop a4)).1]) rfl rfl (k6.cs x7 _ c76) (by simp [Ent.row]) ?_
  have k7 := k6.set c76 (by omega) (.var (Ent.row ⟨t,(textF ((c0 :: rest).drop a4)).1,dl,sq⟩))
  refine fin ⟨t,(textF ((c0 :: rest).drop a4)).1,dl,sq⟩ _ _ (a4 + (textF ((c0 :: rest).drop a4)).2.1) (w4 || !(textF ((c0 :: rest).drop a4)).2.2) k7 ?_ ?_ updC_at (by rw [hpf,hd]; simp)
  ·rw [updC_ne (by omega)]; exact c26
  ·rw [updC_ne (by omega)]; exact c56
theorem f78_ok {x0 : AV} {s : List UInt8} (hb : Bs B H x0 s) (hcap : capOK x0) (hs : s.length ≤ 1000000) (hq : PaQ H s Q) : Cl B 78 [x0] H Q := by
 refine f78_in fun n cl hn hcl hH hA => op_alloc ?_
 subst hcl
 have k0 : KW H H (fun _ => none) := ⟨⟨[],(List.append_nil _).symm⟩,fun p o hp => by cases hp⟩
 exact pa_main hb hcap hs (k0.add (.var zrow)) updC_at (Nat.le_refl _) hq
end
end Go.Am
namespace Go.Am
open Go
def entP (st : RS) : Ent × RS := ((parseF st.1).1,takesF st (parseF st.1).2.1 (decide ((parseF st.1).2.2 = 0)))
def listGo {α : Type} (one : RS → α × RS) : Nat → List α → RS → List α × RS
 | 0,acc,st => (acc,st)
 | k + 1,acc,st => if st.2 = true then ([],st) else listGo one k (acc ++ [(one st).1]) (one st).2
def listP {α : Type} (one : RS → α × RS) (most : Nat) (st : RS) : List α × RS := listGo one (numP most st).1 [] (numP most st).2
theorem listGo_le {α : Type} {one : RS → α × RS} (h : ∀ st,(one st).2.1.length ≤ st.1.length) : ∀ k acc st,(listGo one k acc st).2.1.length ≤ st.1.length ∧ (listGo one k acc st).1.length ≤ acc.length + k
 | 0,acc,st => by simp [listGo]
 | k + 1,acc,st => by
  simp only [listGo]
  split
  ·simp
  ·have := listGo_le h k (acc ++ [(one st).1]) (one st).2
   have h2 := h st
   rw [List.length_append,List.length_singleton] at this
   omega
theorem listP_le {α : Type} {one : RS → α × RS} (h : ∀ st,(one st).2.1.length ≤ st.1.length) (most : Nat) (st : RS) : (listP one most st).2.1.length ≤ st.1.length ∧ (listP one most st).1.length ≤ most := by
 have h1 := listGo_le h (numP most st).1 [] (numP most st).2
 have h2 := numP_le most st
 unfold listP
 simp only [List.length_nil] at h1
 omega
def SlF (C : Nat → Option AObj) (k0 : Nat) (es : Nat) (v : AV) (rows : List (List AV)) : Prop :=
 (∀ r,r ∈ rows → r.length = es) ∧ ((v = .nils ∧ rows = []) ∨ ∃ j cap,v = .slice (.new j) 0 rows.length es cap ∧ k0 ≤ j ∧ C j = some (.arr rows.flatten))
theorem SlF.mono {C C' : Nat → Option AObj} {k0 k1 es : Nat} {v : AV} {rows : List (List AV)} (h : SlF C k0 es v rows) (hk : k1 ≤ k0) (hc : ∀ j o,k0 ≤ j → C j = some (.arr o) → C' j = some (.arr o)) : SlF C' k1 es v rows := by
 obtain ⟨h0,h1 | ⟨j,cap,rfl,h2,h3⟩⟩ := h
 ·exact ⟨h0,.inl h1⟩
 ·exact ⟨h0,.inr ⟨j,cap,rfl,by omega,hc j _ h2 h3⟩⟩
theorem SlF.sl {B : Base} {H G : Heap} {C : Nat → Option AObj} {k0 es : Nat} {v : AV} {rows : List (List AV)} (h : SlF C k0 es v rows) (k : KW H G C) : Sl B G es v rows := by
 obtain ⟨h0,h1 | ⟨j,cap,rfl,h2,h3⟩⟩ := h
 ·exact ⟨h0,.inl h1⟩
 ·exact ⟨h0,.inr ⟨_,_,_,rfl,cellsAt_iff'.2 ⟨rows.flatten,by simp only [cellsOf,k.cs j _ h3],by rw [flatten_len h0]; omega,by rw [List.drop_zero,← flatten_len h0,List.take_length]⟩⟩⟩
theorem SlF.isL {C : Nat → Option AObj} {k0 es : Nat} {v : AV} {rows : List (List AV)} (h : SlF C k0 es v rows) : v = .nils ∨ ∃ o off len cap,v = .slice o off len es cap := by
 obtain ⟨_,⟨rfl,_⟩ | ⟨j,cap,rfl,_⟩⟩ := h
 ·exact .inl rfl
 ·exact .inr ⟨_,_,_,_,rfl⟩
structure AccA (H G : Heap) (C : Nat → Option AObj) (k0 es : Nat) (v : AV) (rows : List (List AV)) : Prop where
 len : ∀ r,r ∈ rows → r.length = es
 or : (v = .nils ∧ rows = []) ∨ ∃ q,v = .slice (.new q) 0 rows.length es none ∧ k0 ≤ q ∧ H.length ≤ q ∧ G[q]? = some (.arr rows.flatten) ∧ C q = none
abbrev MM : Type := Nat → AV → List (List AV) → Prop
def LE {α : Type} (es : Nat) (E : MM → List AV → α → Prop) (M : MM) (v : AV) (l : List α) : Prop := ∃ cs,M es v cs ∧ F2 (E M) cs l
def LV {α : Type} (E : MM → AV → α → Prop) (M : MM) (v : AV) (l : List α) : Prop := ∃ us,M 1 v (us.map fun u => [u]) ∧ F2 (E M) us l
theorem F2.snoc {α β : Type} {R : α → β → Prop} {l : List α} {m : List β} {x : α} {y : β} (h : F2 R l m) (hxy : R x y) : F2 R (l ++ [x]) (m ++ [y]) := by
 obtain ⟨h1,h2⟩ := h
 refine ⟨by simp [h1],fun i a b ha hb => ?_⟩
 rcases Nat.lt_trichotomy i l.length with hi | hi | hi
 ·rw [List.getElem?_append_left hi] at ha
  rw [List.getElem?_append_left (by omega)] at hb
  exact h2 i a b ha hb
 ·subst hi
  rw [List.getElem?_append_right (Nat.le_refl _),Nat.sub_self] at ha
  rw [h1,List.getElem?_append_right (Nat.le_refl _),Nat.sub_self] at hb
  cases ha; cases hb; exact hxy
 ·rw [List.getElem?_eq_none (by simp; omega)] at ha; cases ha
section
variable {B : Base} {n : Nat} {H G : Heap} {C : Nat → Option AObj} {Q : AV → Heap → Prop} {p : Nat} {st : RS}
theorem AccA.back {k0 es : Nat} {v : AV} {rows : List (List AV)} {c : List AV} (a : AccA H G C k0 es v rows) (k : KW H G C) (hp : C p = some (.var c)) : ∃ C1,KW H G C1 ∧ (∀ j o,C j = some o → C1 j = some o) ∧ SlF C1 k0 es v rows ∧
  ∀ G' C',KW H G' C' → Keeps1 C1 C' p → ∃ C2,KW H G' C2 ∧ AccA H G' C2 k0 es v rows ∧ (∀ j o,(G.length ≤ j ∨ C j ≠ none) → C' j = some o → C2 j = some o) := by
 obtain ⟨h0,⟨rfl,rfl⟩ | ⟨q,rfl,h1,h2,h3,h4⟩⟩ := a
 ·exact ⟨C,k,fun _ _ h => h,⟨h0,.inl ⟨rfl,rfl⟩⟩,fun G' C' k' _ => ⟨C',k',⟨h0,.inl ⟨rfl,rfl⟩⟩,fun _ _ _ h => h⟩⟩
 ·have hqp : q ≠ p := fun e => by subst e; rw [hp] at h4; cases h4
  have hlt := lt_of_get h3
  refine ⟨updC C q (.arr rows.flatten),⟨k.pre,fun j o hj => ?_⟩,fun j o hj => ?_,⟨h0,.inr ⟨q,none,rfl,h1,updC_at⟩⟩,fun G' C' k' e' => ?_⟩
  ·unfold updC at hj
   split at hj
   ·rename_i e; subst e; cases hj; exact h3
   ·exact k.cs j o hj
  ·rw [updC_ne (fun e => by subst e; rw [h4] at hj; cases hj)]; exact hj
  ·refine ⟨fun j => if j = q then none else C' j,⟨k'.pre,fun j o hj => ?_⟩,⟨h0,.inr ⟨q,rfl,h1,h2,k'.cs q _ (e' q _ hqp updC_at),if_pos rfl⟩⟩,fun j o hor hj => ?_⟩
   ·change (if j = q then none else C' j) = some o at hj
    split at hj
    ·cases hj
    ·exact k'.cs j o hj
   ·show (if j = q then none else C' j) = some o
    rw [if_neg]
    ·exact hj
    ·intro e; subst e
     rcases hor with h | h
     ·omega
     ·exact h h4
theorem op_appA {K : AV → Heap → Prop} {k0 es bytes : Nat} {v u : AV} {rows rows2 : List (List AV)} (h : KW H G C) (hg : AccA H G C k0 es v rows) (hk0 : k0 ≤ G.length) (hu : Sl B G es u rows2) (hne : rows2 ≠ []) (hb : (rows.length + rows2.length) * bytes ≤ maxBytes)
  (hk : ∀ v' G',KW H G' C → AccA H G' C k0 es v' (rows ++ rows2) → G.length ≤ G'.length → K v' G') : aop B E0 G K (.append es bytes (.const v) (.const u)) := by
 have hl2 := flatten_len hu.1
 have hn2 : rows2.length ≠ 0 := by intro e; exact hne (List.length_eq_zero_iff.1 e)
 have hHG := h.le
 have hrows : ∀ r,r ∈ rows ++ rows2 → r.length = es := fun r hm => (List.mem_append.1 hm).elim (hg.1 r) (hu.1 r)
 have hfree : C G.length = none := by
  cases e : C G.length with
  | none => rfl
  | some o => have := h.lt e; omega
 obtain ⟨h0,⟨rfl,rfl⟩ | ⟨q,rfl,hq0,hq,hgq,hcq⟩⟩ := hg
 ·refine op_app hu.len hu.elems hl2 (appendTo_nil hn2 (by simpa using hb)) (hk _ _ (h.grow _) ⟨hrows,.inr ⟨G.length,by simp,hk0,hHG,by rw [get_app0]; simp,hfree⟩⟩ (by rw [List.length_append]; omega))
 ·have hc : cellsAt B G (.new q) 0 (rows.length * es) = some rows.flatten :=
   cellsAt_iff'.2 ⟨rows.flatten,by simp only [cellsOf,hgq],by rw [flatten_len h0]; omega,by rw [List.drop_zero,← flatten_len h0,List.take_length]⟩
  have hlen : (G.set q AObj.gone).length = G.length := List.length_set
  have h2 : KW H (G.set q .gone) C := by
   obtain ⟨⟨L,rfl⟩,hcs⟩ := h
   exact ⟨set_preL hq,fun j o hj => by rw [get_set_ne (fun e => by subst e; rw [hcq] at hj; cases hj)]; exact hcs j o hj⟩
  refine op_app hu.len hu.elems hl2 (appendTo_own hn2 hb hc) (hk _ _ (h2.grow _) ⟨hrows,.inr ⟨G.length,by rw [List.length_append],hk0,hHG,?_,hfree⟩⟩ (by rw [List.length_append,hlen]; omega))
  rw [← hlen,get_app0]; simp
theorem int_i {v : Int} {K : Int → Prop} (h : K v) : pInt .i64 (.int .i64 v) K := by rw [pInt_int]; exact h
theorem live_agg' {l : List AV} {K : AV → Prop} (h : K (.agg l)) : pLive (.agg l) K := h
theorem op_extA {K : AV → Heap → Prop} {l : List AV} {i : Nat} {v : AV} (h : l[i]? = some v) (hk : K v G) : aop B E0 G K (.extract none i (.const (.tuple l))) := by
 simp only [aop,opK,Opd.look,ob_some,h]
 exact hk
theorem keeps_add {o : AObj} (h : KW H G C) : ∀ q o',C q = some o' → updC C G.length o q = some o' := fun q o' hc => by
 have := h.lt hc
 rw [updC_ne (by omega)]; exact hc
theorem RdR.mono {C' : Nat → Option AObj} (h : RdR B H C p st) (hc : ∀ o,C p = some o → C' p = some o) : RdR B H C' p st := by
 obtain ⟨bv,h1,h2⟩ := h
 exact ⟨bv,hc _ h1,h2⟩
theorem live_isL {v : AV} {K : AV → Prop} (h : v = .nils ∨ ∃ o off len es cap,v = .slice o off len es cap) (hk : K v) : pLive v K := by
 obtain rfl | ⟨o,off,len,es,cap,rfl⟩ := h
 ·exact hk
 ·exact hk
theorem cells_isL {v : AV} (h : v = .nils ∨ ∃ o off len es cap,v = .slice o off len es cap) : v.cells? = some [v] := by
 obtain rfl | ⟨o,off,len,es,cap,rfl⟩ := h <;> rfl
theorem f49_ok (h : KW H G C) (hr : RdR B H C p st) (hNN : st.1.length ≤ 1000000) (hq : RdK B H G C p (entP st).2 fun G' _ => Q (.agg (entP st).1.row) G') : Cl B 49 [pt p] G Q := by
 have hr0 := hr
 obtain ⟨bv,hc,hp,hb,hcap⟩ := hr
 refine f49_in fun n cl hn hcl hH hA => op_alloc ?_
 subst hcl
 have k1 := h.add (.var zrow)
 have e1 := keeps_add (o := .var zrow) h
 have c1 : updC C G.length (.var zrow) G.length = some (.var zrow) := updC_at
 have hHG : H.length ≤ G.length := h.le
 have main : ∀ (x1 : Nat) (G1 : Heap) (C1 : Nat → Option AObj),G.length ≤ G1.length → KW H G1 C1 → (∀ q o,C q = some o → C1 q = some o) → C1 x1 = some (.var zrow) → H.length ≤ x1 → (∀ q o,C q = some o → q ≠ x1) →
   aop B E0 G1 (fun v3 _ => aop B E0 G1 (fun v4 _ => ob (peek B G1 v4) fun c5 => pLive c5 fun v6 => Cl B 78 [v6] G1 fun v7 H8 => pLive v7 fun v9 => (aop B E0 H8 (fun v10 _ => (aop B E0 H8 (fun v11 _ => (aop B E0 H8 (fun v12 _ => (aop B E0 H8 (fun v13 H14 => (aop B E0 H14 (fun v15 H16 => pInt .i64 (v12) fun n17 => ibinK .eql .i64 (n17) (0) fun v18 => Cl B 79 [pt p,v11,v18] H16 fun v19 H20 => tyK .bool v19 fun v21 => ob (peekN B H20 4 (v13)) fun c22 => (aop B E0 H20 (fun v23 H24 => ob (peekN B H24 4 (pt x1)) fun c25 => tidyK n Q (.agg c25) H24) (.st 4 (.const (pt x1)) (.const (.agg c22))))) (.st 4 (.const (v13)) (.const (v10))))) (.alloc [(.str []),(.str []),(.bool false),(.int .i64 0)]))) (.extract (some (.int .i64)) 2 (.const (v9))))) (.extract (some (.int .i64)) 1 (.const (v9))))) (.extract none 0 (.const (v9))))) (.fieldPtr 0 (.const v3))) (.nilCheck (.const (pt p))) := fun x1 G1 C1 l1 k1 e1 c1 hx1 hx1f => by
  have hne : x1 ≠ p := (hx1f p _ hc).symm
  have d1 := e1 p _ hc
  have hg := k1.cs p _ d1
  refine op_nil (op_fldP ?_)
  rw [peekV hg (v := bv) rfl,ob_some]
  have hbG := k1.bs hb
  refine Sl.live hbG _ (f78_ok hbG hcap (by omega) fun L => live_tuple (op_extA rfl (op_extI rfl (op_extI rfl ?_))))
  have k2 := k1.grow L
  have l2 : G.length ≤ (G1 ++ L).length := by rw [List.length_append]; omega
  generalize G1 ++ L = G2 at k2 l2 ⊢
  refine op_alloc (op_st_last rfl rfl ?_)
  rw [pInt_int]
  have k3 := k2.add (.var (parseF st.1).1.row)
  have hx1G := k2.lt c1
  have hpG := k2.lt d1
  have d3 : RdR B H (updC C1 G2.length (.var (parseF st.1).1.row)) p st := hr0.mono fun o ho => by rw [updC_ne (by omega)]; exact e1 p o ho
  refine ib_eq (f79_ok k3 d3 (fun _ => parseF_le st.1) fun G4 C4 k4 e4 r4 l4 => tyK_bool ?_)
  have c34 : C4 G2.length = some (.var (parseF st.1).1.row) := e4 _ _ (by omega) updC_at
  have c14 : C4 x1 = some (.var zrow) := e4 _ _ hne (by rw [updC_ne (by omega)]; exact c1)
  rw [show peekN B G4 4 (.ptr (some (.new G2.length,0))) = some (parseF st.1).1.row from peekVN (k4.cs _ _ c34) rfl,ob_some]
  refine op_st (c := zrow) (vs := (parseF st.1).1.row) rfl rfl (k4.cs x1 _ c14) (by simp [zrow,Ent.row]) ?_
  have k5 := k4.set c14 hx1 (.var (parseF st.1).1.row)
  rw [putAt_all (show zrow.length = (parseF st.1).1.row.length from rfl),show peekN B (G4.set x1 (.var (parseF st.1).1.row)) 4 (pt x1) = some (parseF st.1).1.row from peekVN (k5.cs x1 _ updC_at) rfl,ob_some]
  refine tidy_none (hq _ _ k5 (fun q o hqp hcq => ?_) ?_ ?_)
  ·have h1 := e1 q o hcq
   have h2 := k2.lt h1
   rw [updC_ne (hx1f q o hcq)]
   exact e4 q o hqp (by rw [updC_ne (by omega)]; exact h1)
  ·exact r4.mono fun o ho => by rw [updC_ne (Ne.symm hne)]; exact ho
  ·rw [List.length_set]
   rw [List.length_append] at l4
   omega
 exact main G.length (G ++ [.var zrow]) _ (by rw [List.length_append]; omega) k1 e1 c1 hHG fun q o hcq => by have := h.lt hcq; omega
theorem f82_ok {x y : AV} {s t : List UInt8} (hx : Bs B G x s) (hy : Bs B G y t) (hq : Q (.bool (s == t)) G) : Cl B 82 [x,y] G Q := by
 refine f82_in fun n cl hn hcl hH hA => op_toStr hx (op_toStr hy ?_)
 rw [pStr_str,pStr_str]
 exact (show sbinK .eql s t _ from bool_split (K := fun v => tidyK n Q v G) (tidy_none hq))
theorem f52_ok {x y : AV} {s t : List UInt8} {e : Int} (hx : Bs B G x s) (hy : Bs B G y t) (hq : Q (.bool (decide (e = 0) && s == t)) G) : Cl B 52 [x,.int .i64 e,y] G Q := by
 refine f52_in fun n cl hn hcl hH hA => int_i ?_
 subst hcl
 by_cases he : e = 0
 ·refine bs_yes (by simp [he]) (f82_ok hx hy (tyK_bool (tidy_none ?_)))
  rw [decide_eq_true he,Bool.true_and] at hq; exact hq
 ·refine bs_no (by simp [he]) (tidy_none ?_)
  rw [decide_eq_false he,Bool.false_and] at hq; exact hq
def OneK {α X : Type} (B : Base) (H : Heap) (p : Nat) (fv : AV) (val : X → AV) (E : MM → X → α → Prop) (one : RS → α × RS) (Inv : (Nat → Option AObj) → Prop) : Prop :=
 ∀ (G : Heap) (C : Nat → Option AObj) (st : RS) (Q : AV → Heap → Prop),KW H G C → RdR B H C p st → st.1.length ≤ 1000000 → Inv C →
  (∀ G' C' x,KW H G' C' → Keeps1 C C' p → RdR B H C' p (one st).2 → G.length ≤ G'.length → E (SlF C' G.length) x (one st).1 → Q (val x) G') → calleeK B E0 G [] (fun g z => Cl B g z G Q) (.val (.const fv))
theorem f48_rd {α : Type} {one : RS → α × RS} {E : MM → List AV → α → Prop} {Inv : (Nat → Option AObj) → Prop} {fv : AV} {most : Nat} (hE : ∀ (M M' : MM) x a,(∀ es v rows,M es v rows → M' es v rows) → E M x a → E M' x a) (hlen : ∀ C k x a,E (SlF C k) x a → x.length = 4)
  (hInv : ∀ C C',Keeps1 C C' p → Inv C → Inv C') (hle : ∀ st,(one st).2.1.length ≤ st.1.length) (hone : OneK B H p fv (fun c : List AV => AV.agg c) E one Inv) (hmost : most ≤ 1000) (h : KW H G C) (hr : RdR B H C p st) (hs : st.1.length ≤ 1000000) (hi : Inv C)
  (hq : ∀ v G' C',KW H G' C' → Keeps1 C C' p → RdR B H C' p (listP one most st).2 → G.length ≤ G'.length → LE 4 E (SlF C' G.length) v (listP one most st).1 → Q v G') : Cl B 48 [pt p,.int .i64 (most : Int),fv] G Q := by
 have hbig : maxBytes = 140737488355328 := rfl
 refine f48_in fun n cl hn hcl hH hA => ?_
 subst hcl
 refine f51_ok (most := most) h hr (by omega) fun G1 C1 k1 e1 r1 l1 => int_i ?_
 have hm := numP_le most st
 have go : ∀ (f i : Nat) (G' : Heap) (C' : Nat → Option AObj) (v : AV) (cs : List (List AV)) (acc : List α) (st' : RS),i + f = (numP most st).1 → cs.length = i → G.length ≤ G'.length → KW H G' C' → Keeps1 C C' p → RdR B H C' p st' → st'.1.length ≤ 1000000 → AccA H G' C' G.length 4 v cs → F2 (E (SlF C' G.length)) cs acc → listGo one f acc st' = listP one most st →
   L48_0 B (Cl B) n (pt p) fv v ((numP most st).1 : Int) (i : Int) G' Q := by
  intro f
  induction f with
  | zero =>
   intro i G' C' v cs acc st' hif hl hG k e r hs' ha hf hgo
   refine L48_0_in (ACall.cle B table) (bs_dec (fun h1 => by omega) fun _ => J48_1_in (tidy_none ?_))
   obtain ⟨bv,hc,hrest⟩ := r
   obtain ⟨C2,k2,s2,t2,_⟩ := ha.back k hc
   simp only [listGo] at hgo
   rw [← hgo] at hq
   refine hq v G' C2 k2 (fun q o hqp hcq => s2 q o (e q o hqp hcq)) ⟨bv,s2 _ _ hc,hrest⟩ hG ⟨cs,t2,hf.mono fun x a hx => hE _ _ x a (fun es v rows hv => hv.mono (Nat.le_refl _) fun j o _ hj => s2 j _ hj) hx⟩
  | succ f ih =>
   intro i G' C' v cs acc st' hif hl hG k e r hs' ha hf hgo
   obtain ⟨bv,hc,hrest⟩ := r
   have hp := k.lt hc
   refine L48_0_in (ACall.cle B table) (bs_dec (fun _ => op_nil (op_fldP ?_)) fun h1 => absurd (by omega) h1)
   rw [peekV (k.cs p _ hc) (v := .bool st'.2) rfl,ob_some,pBool_bool]
   refine bs_iff.2 ⟨fun hw => tidy_none ?_,fun hw => ?_⟩
   ·simp only [listGo,hw,if_true] at hgo
    rw [← hgo] at hq
    exact hq .nils G' C' k e ⟨bv,hc,hrest⟩ hG ⟨[],⟨fun r hr => by simp at hr,.inl ⟨rfl,rfl⟩⟩,F2.nil⟩
   simp only [listGo,hw] at hgo
   obtain ⟨C1',kC1,s1,t1,back⟩ := ha.back k hc
   have r1' : RdR B H C1' p st' := ⟨bv,s1 _ _ hc,hrest⟩
   have i1 : Inv C1' := hInv C C1' (fun q o hqp hcq => s1 q o (e q o hqp hcq)) hi
   refine hone G' C1' st' _ kC1 r1' hs' i1 fun G2 C2 x k2 e2 r2 l2 hx => live_agg' ?_
   rw [lay_row (n := 4) rfl (hlen _ _ _ _ hx),ob_some]
   refine slK_in ?_
   have hrow := hlen _ _ _ _ hx
   obtain ⟨C3,k3,a3,sup⟩ := back G2 C2 k2 e2
   have keep : Keeps1 C' C3 p := fun q o hqp hcq => sup q o (.inr (by rw [hcq]; simp)) (e2 q o hqp (s1 q o hcq))
   have ka : ∀ j o,C' j = some (.arr o) → C3 j = some (.arr o) := fun j o hj => keep j _ (fun ej => by subst ej; rw [hc] at hj; cases hj) hj
   have r3 : RdR B H C3 p (one st').2 := r2.mono fun o ho => sup p o (.inr (by rw [hc]; simp)) ho
   have a3' : AccA H (G2 ++ [.arr x]) C3 G.length 4 v cs := by
    obtain ⟨h0,h1 | ⟨q,z1,z2,z3,z4,z5⟩⟩ := a3
    ·exact ⟨h0,.inl h1⟩
    ·exact ⟨h0,.inr ⟨q,z1,z2,z3,get_pre z4,z5⟩⟩
   have hu : Sl B (G2 ++ [.arr x]) 4 (.slice (.new G2.length) 0 1 4 (some 1)) [x] := sl_row1 hrow
   refine op_appA (k3.grow [.arr x]) a3' (by rw [List.length_append]; omega) hu (by simp) (by rw [hl]; simp only [List.length_singleton]; omega) fun v' G4 k4 a4 l4 => ?_
   rw [w64 (by omega)]
   rw [List.length_append] at l4
   refine ih (i + 1) G4 C3 v' (cs ++ [x]) (acc ++ [(one st').1]) (one st').2 (by omega) (by rw [List.length_append,hl]; rfl) (by omega) k4 (e.trans keep) r3 (Nat.le_trans (hle st') hs') a4 (F2.snoc (hf.mono fun x a hx => hE _ _ x a (fun es v rows hv => hv.mono (Nat.le_refl _) fun j o _ hj => ka j o hj) hx) (hE _ _ x _ (fun es v rows hv => hv.mono (by omega) fun j o hj hc => sup j _ (.inl hj) hc) hx)) hgo
 exact go (numP most st).1 0 G1 C1 .nils [] [] (numP most st).2 (Nat.zero_add _) rfl l1 k1 e1 r1 (Nat.le_trans hm.2 hs) ⟨fun r hr => by simp at hr,.inl ⟨rfl,rfl⟩⟩ F2.nil rfl
theorem f86_rd {α : Type} {one : RS → α × RS} {E : MM → List AV → α → Prop} {Inv : (Nat → Option AObj) → Prop} {fv : AV} {most : Nat} (hE : ∀ (M M' : MM) x a,(∀ es v rows,M es v rows → M' es v rows) → E M x a → E M' x a) (hlen : ∀ C k x a,E (SlF C k) x a → x.length = 7)
  (hInv : ∀ C C',Keeps1 C C' p → Inv C → Inv C') (hle : ∀ st,(one st).2.1.length ≤ st.1.length) (hone : OneK B H p fv (fun c : List AV => AV.agg c) E one Inv) (hmost : most ≤ 1000) (h : KW H G C) (hr : RdR B H C p st) (hs : st.1.length ≤ 1000000) (hi : Inv C)
  (hq : ∀ v G' C',KW H G' C' → Keeps1 C C' p → RdR B H C' p (listP one most st).2 → G.length ≤ G'.length → LE 7 E (SlF C' G.length) v (listP one most st).1 → Q v G') : Cl B 86 [pt p,.int .i64 (most : Int),fv] G Q := by
 have hbig : maxBytes = 140737488355328 := rfl
 refine f86_in fun n cl hn hcl hH hA => ?_
 subst hcl
 refine f51_ok (most := most) h hr (by omega) fun G1 C1 k1 e1 r1 l1 => int_i ?_
 have hm := numP_le most st
 have go : ∀ (f i : Nat) (G' : Heap) (C' : Nat → Option AObj) (v : AV) (cs : List (List AV)) (acc : List α) (st' : RS),i + f = (numP most st).1 → cs.length = i → G.length ≤ G'.length → KW H G' C' → Keeps1 C C' p → RdR B H C' p st' → st'.1.length ≤ 1000000 → AccA H G' C' G.length 7 v cs → F2 (E (SlF C' G.length)) cs acc → listGo one f acc st' = listP one most st →
   L86_0 B (Cl B) n (pt p) fv v ((numP most st).1 : Int) (i : Int) G' Q := by
  intro f
  induction f with
  | zero =>
   intro i G' C' v cs acc st' hif hl hG k e r hs' ha hf hgo
   refine L86_0_in (ACall.cle B table) (bs_dec (fun h1 => by omega) fun _ => J86_1_in (tidy_none ?_))
   obtain ⟨bv,hc,hrest⟩ := r
   obtain ⟨C2,k2,s2,t2,_⟩ := ha.back k hc
   simp only [listGo] at hgo
   rw [← hgo] at hq
   refine hq v G' C2 k2 (fun q o hqp hcq => s2 q o (e q o hqp hcq)) ⟨bv,s2 _ _ hc,hrest⟩ hG ⟨cs,t2,hf.mono fun x a hx => hE _ _ x a (fun es v rows hv => hv.mono (Nat.le_refl _) fun j o _ hj => s2 j _ hj) hx⟩
  | succ f ih =>
   intro i G' C' v cs acc st' hif hl hG k e r hs' ha hf hgo
   obtain ⟨bv,hc,hrest⟩ := r
   have hp := k.lt hc
   refine L86_0_in (ACall.cle B table) (bs_dec (fun _ => op_nil (op_fldP ?_)) fun h1 => absurd (by omega) h1)
   rw [peekV (k.cs p _ hc) (v := .bool st'.2) rfl,ob_some,pBool_bool]
   refine bs_iff.2 ⟨fun hw => tidy_none ?_,fun hw => ?_⟩
   ·simp only [listGo,hw,if_true] at hgo
    rw [← hgo] at hq
    exact hq .nils G' C' k e ⟨bv,hc,hrest⟩ hG ⟨[],⟨fun r hr => by simp at hr,.inl ⟨rfl,rfl⟩⟩,F2.nil⟩
   simp only [listGo,hw] at hgo
   obtain ⟨C1',kC1,s1,t1,back⟩ := ha.back k hc
   have r1' : RdR B H C1' p st' := ⟨bv,s1 _ _ hc,hrest⟩
   have i1 : Inv C1' := hInv C C1' (fun q o hqp hcq => s1 q o (e q o hqp hcq)) hi
   refine hone G' C1' st' _ kC1 r1' hs' i1 fun G2 C2 x k2 e2 r2 l2 hx => live_agg' ?_
   rw [lay_row (n := 7) rfl (hlen _ _ _ _ hx),ob_some]
   refine slK_in ?_
   have hrow := hlen _ _ _ _ hx
   obtain ⟨C3,k3,a3,sup⟩ := back G2 C2 k2 e2
   have keep : Keeps1 C' C3 p := fun q o hqp hcq => sup q o (.inr (by rw [hcq]; simp)) (e2 q o hqp (s1 q o hcq))
   have ka : ∀ j o,C' j = some (.arr o) → C3 j = some (.arr o) := fun j o hj => keep j _ (fun ej => by subst ej; rw [hc] at hj; cases hj) hj
   have r3 : RdR B H C3 p (one st').2 := r2.mono fun o ho => sup p o (.inr (by rw [hc]; simp)) ho
   have a3' : AccA H (G2 ++ [.arr x]) C3 G.length 7 v cs := by
    obtain ⟨h0,h1 | ⟨q,z1,z2,z3,z4,z5⟩⟩ := a3
    ·exact ⟨h0,.inl h1⟩
    ·exact ⟨h0,.inr ⟨q,z1,z2,z3,get_pre z4,z5⟩⟩
   have hu : Sl B (G2 ++ [.arr x]) 7 (.slice (.new G2.length) 0 1 7 (some 1)) [x] := sl_row1 hrow
   refine op_appA (k3.grow [.arr x]) a3' (by rw [List.length_append]; omega) hu (by simp) (by rw [hl]; simp only [List.length_singleton]; omega) fun v' G4 k4 a4 l4 => ?_
   rw [w64 (by omega)]
   rw [List.length_append] at l4
   refine ih (i + 1) G4 C3 v' (cs ++ [x]) (acc ++ [(one st').1]) (one st').2 (by omega) (by rw [List.length_append,hl]; rfl) (by omega) k4 (e.trans keep) r3 (Nat.le_trans (hle st') hs') a4 (F2.snoc (hf.mono fun x a hx => hE _ _ x a (fun es v rows hv => hv.mono (Nat.le_refl _) fun j o _ hj => ka j o hj) hx) (hE _ _ x _ (fun es v rows hv => hv.mono (by omega) fun j o hj hc => sup j _ (.inl hj) hc) hx)) hgo
 exact go (numP most st).1 0 G1 C1 .nils [] [] (numP most st).2 (Nat.zero_add _) rfl l1 k1 e1 r1 (Nat.le_trans hm.2 hs) ⟨fun r hr => by simp at hr,.inl ⟨rfl,rfl⟩⟩ F2.nil rfl
theorem f88_rd {α : Type} {one : RS → α × RS} {E : MM → List AV → α → Prop} {Inv : (Nat → Option AObj) → Prop} {fv : AV} {most : Nat} (hE : ∀ (M M' : MM) x a,(∀ es v rows,M es v rows → M' es v rows) → E M x a → E M' x a) (hlen : ∀ C k x a,E (SlF C k) x a → x.length = 3)
  (hInv : ∀ C C',Keeps1 C C' p → Inv C → Inv C') (hle : ∀ st,(one st).2.1.length ≤ st.1.length) (hone : OneK B H p fv (fun c : List AV => AV.agg c) E one Inv) (hmost : most ≤ 1000) (h : KW H G C) (hr : RdR B H C p st) (hs : st.1.length ≤ 1000000) (hi : Inv C)
  (hq : ∀ v G' C',KW H G' C' → Keeps1 C C' p → RdR B H C' p (listP one most st).2 → G.length ≤ G'.length → LE 3 E (SlF C' G.length) v (listP one most st).1 → Q v G') : Cl B 88 [pt p,.int .i64 (most : Int),fv] G Q := by
 have hbig : maxBytes = 140737488355328 := rfl
 refine f88_in fun n cl hn hcl hH hA => ?_
 subst hcl
 refine f51_ok (most := most) h hr (by omega) fun G1 C1 k1 e1 r1 l1 => int_i ?_
 have hm := numP_le most st
 have go : ∀ (f i : Nat) (G' : Heap) (C' : Nat → Option AObj) (v : AV) (cs : List (List AV)) (acc : List α) (st' : RS),i + f = (numP most st).1 → cs.length = i → G.length ≤ G'.length → KW H G' C' → Keeps1 C C' p → RdR B H C' p st' → st'.1.length ≤ 1000000 → AccA H G' C' G.length 3 v cs → F2 (E (SlF C' G.length)) cs acc → listGo one f acc st' = listP one most st →
   L88_0 B (Cl B) n (pt p) fv v ((numP most st).1 : Int) (i : Int) G' Q := by
  intro f
  induction f with
  | zero =>
   intro i G' C' v cs acc st' hif hl hG k e r hs' ha hf hgo
   refine L88_0_in (ACall.cle B table) (bs_dec (fun h1 => by omega) fun _ => J88_1_in (tidy_none ?_))
   obtain ⟨bv,hc,hrest⟩ := r
   obtain ⟨C2,k2,s2,t2,_⟩ := ha.back k hc
   simp only [listGo] at hgo
   rw [← hgo] at hq
   refine hq v G' C2 k2 (fun q o hqp hcq => s2 q o (e q o hqp hcq)) ⟨bv,s2 _ _ hc,hrest⟩ hG ⟨cs,t2,hf.mono fun x a hx => hE _ _ x a (fun es v rows hv => hv.mono (Nat.le_refl _) fun j o _ hj => s2 j _ hj) hx⟩
  | succ f ih =>
   intro i G' C' v cs acc st' hif hl hG k e r hs' ha hf hgo
   obtain ⟨bv,hc,hrest⟩ := r
   have hp := k.lt hc
   refine L88_0_in (ACall.cle B table) (bs_dec (fun _ => op_nil (op_fldP ?_)) fun h1 => absurd (by omega) h1)
   rw [peekV (k.cs p _ hc) (v := .bool st'.2) rfl,ob_some,pBool_bool]
   refine bs_iff.2 ⟨fun hw => tidy_none ?_,fun hw => ?_⟩
   ·simp only [listGo,hw,if_true] at hgo
    rw [← hgo] at hq
    exact hq .nils G' C' k e ⟨bv,hc,hrest⟩ hG ⟨[],⟨fun r hr => by simp at hr,.inl ⟨rfl,rfl⟩⟩,F2.nil⟩
   simp only [listGo,hw] at hgo
   obtain ⟨C1',kC1,s1,t1,back⟩ := ha.back k hc
   have r1' : RdR B H C1' p st' := ⟨bv,s1 _ _ hc,hrest⟩
   have i1 : Inv C1' := hInv C C1' (fun q o hqp hcq => s1 q o (e q o hqp hcq)) hi
   refine hone G' C1' st' _ kC1 r1' hs' i1 fun G2 C2 x k2 e2 r2 l2 hx => live_agg' ?_
   rw [lay_row (n := 3) rfl (hlen _ _ _ _ hx),ob_some]
   refine slK_in ?_
   have hrow := hlen _ _ _ _ hx
   obtain ⟨C3,k3,a3,sup⟩ := back G2 C2 k2 e2
   have keep : Keeps1 C' C3 p := fun q o hqp hcq => sup q o (.inr (by rw [hcq]; simp)) (e2 q o hqp (s1 q o hcq))
   have ka : ∀ j o,C' j = some (.arr o) → C3 j = some (.arr o) := fun j o hj => keep j _ (fun ej => by subst ej; rw [hc] at hj; cases hj) hj
   have r3 : RdR B H C3 p (one st').2 := r2.mono fun o ho => sup p o (.inr (by rw [hc]; simp)) ho
   have a3' : AccA H (G2 ++ [.arr x]) C3 G.length 3 v cs := by
    obtain ⟨h0,h1 | ⟨q,z1,z2,z3,z4,z5⟩⟩ := a3
    ·exact ⟨h0,.inl h1⟩
    ·exact ⟨h0,.inr ⟨q,z1,z2,z3,get_pre z4,z5⟩⟩
   have hu : Sl B (G2 ++ [.arr x]) 3 (.slice (.new G2.length) 0 1 3 (some 1)) [x] := sl_row1 hrow
   refine op_appA (k3.grow [.arr x]) a3' (by rw [List.length_append]; omega) hu (by simp) (by rw [hl]; simp only [List.length_singleton]; omega) fun v' G4 k4 a4 l4 => ?_
   rw [w64 (by omega)]
   rw [List.length_append] at l4
   refine ih (i + 1) G4 C3 v' (cs ++ [x]) (acc ++ [(one st').1]) (one st').2 (by omega) (by rw [List.length_append,hl]; rfl) (by omega) k4 (e.trans keep) r3 (Nat.le_trans (hle st') hs') a4 (F2.snoc (hf.mono fun x a hx => hE _ _ x a (fun es v rows hv => hv.mono (Nat.le_refl _) fun j o _ hj => ka j o hj) hx) (hE _ _ x _ (fun es v rows hv => hv.mono (by omega) fun j o hj hc => sup j _ (.inl hj) hc) hx)) hgo
 exact go (numP most st).1 0 G1 C1 .nils [] [] (numP most st).2 (Nat.zero_add _) rfl l1 k1 e1 r1 (Nat.le_trans hm.2 hs) ⟨fun r hr => by simp at hr,.inl ⟨rfl,rfl⟩⟩ F2.nil rfl
theorem f103_rd {α : Type} {one : RS → α × RS} {E : MM → List AV → α → Prop} {Inv : (Nat → Option AObj) → Prop} {fv : AV} {most : Nat} (hE : ∀ (M M' : MM) x a,(∀ es v rows,M es v rows → M' es v rows) → E M x a → E M' x a) (hlen : ∀ C k x a,E (SlF C k) x a → x.length = 32)
  (hInv : ∀ C C',Keeps1 C C' p → Inv C → Inv C') (hle : ∀ st,(one st).2.1.length ≤ st.1.length) (hone : OneK B H p fv (fun c : List AV => AV.agg c) E one Inv) (hmost : most ≤ 1000) (h : KW H G C) (hr : RdR B H C p st) (hs : st.1.length ≤ 1000000) (hi : Inv C)
  (hq : ∀ v G' C',KW H G' C' → Keeps1 C C' p → RdR B H C' p (listP one most st).2 → G.length ≤ G'.length → LE 32 E (SlF C' G.length) v (listP one most st).1 → Q v G') : Cl B 103 [pt p,.int .i64 (most : Int),fv] G Q := by
 have hbig : maxBytes = 140737488355328 := rfl
 refine f103_in fun n cl hn hcl hH hA => ?_
 subst hcl
 refine f51_ok (most := most) h hr (by omega) fun G1 C1 k1 e1 r1 l1 => int_i ?_
 have hm := numP_le most st
 have go : ∀ (f i : Nat) (G' : Heap) (C' : Nat → Option AObj) (v : AV) (cs : List (List AV)) (acc : List α) (st' : RS),i + f = (numP most st).1 → cs.length = i → G.length ≤ G'.length → KW H G' C' → Keeps1 C C' p → RdR B H C' p st' → st'.1.length ≤ 1000000 → AccA H G' C' G.length 32 v cs → F2 (E (SlF C' G.length)) cs acc → listGo one f acc st' = listP one most st →
   L103_0 B (Cl B) n (pt p) fv v ((numP most st).1 : Int) (i : Int) G' Q := by
  intro f
  induction f with
  | zero =>
   intro i G' C' v cs acc st' hif hl hG k e r hs' ha hf hgo
   refine L103_0_in (ACall.cle B table) (bs_dec (fun h1 => by omega) fun _ => J103_1_in (tidy_none ?_))
   obtain ⟨bv,hc,hrest⟩ := r
   obtain ⟨C2,k2,s2,t2,_⟩ := ha.back k hc
   simp only [listGo] at hgo
   rw [← hgo] at hq
   refine hq v G' C2 k2 (fun q o hqp hcq => s2 q o (e q o hqp hcq)) ⟨bv,s2 _ _ hc,hrest⟩ hG ⟨cs,t2,hf.mono fun x a hx => hE _ _ x a (fun es v rows hv => hv.mono (Nat.le_refl _) fun j o _ hj => s2 j _ hj) hx⟩
  | succ f ih =>
   intro i G' C' v cs acc st' hif hl hG k e r hs' ha hf hgo
   obtain ⟨bv,hc,hrest⟩ := r
   have hp := k.lt hc
   refine L103_0_in (ACall.cle B table) (bs_dec (fun _ => op_nil (op_fldP ?_)) fun h1 => absurd (by omega) h1)
   rw [peekV (k.cs p _ hc) (v := .bool st'.2) rfl,ob_some,pBool_bool]
   refine bs_iff.2 ⟨fun hw => tidy_none ?_,fun hw => ?_⟩
   ·simp only [listGo,hw,if_true] at hgo
    rw [← hgo] at hq
    exact hq .nils G' C' k e ⟨bv,hc,hrest⟩ hG ⟨[],⟨fun r hr => by simp at hr,.inl ⟨rfl,rfl⟩⟩,F2.nil⟩
   simp only [listGo,hw] at hgo
   obtain ⟨C1',kC1,s1,t1,back⟩ := ha.back k hc
   have r1' : RdR B H C1' p st' := ⟨bv,s1 _ _ hc,hrest⟩
   have i1 : Inv C1' := hInv C C1' (fun q o hqp hcq => s1 q o (e q o hqp hcq)) hi
   refine hone G' C1' st' _ kC1 r1' hs' i1 fun G2 C2 x k2 e2 r2 l2 hx => live_agg' ?_
   rw [lay_row (n := 32) rfl (hlen _ _ _ _ hx),ob_some]
   refine slK_in ?_
   have hrow := hlen _ _ _ _ hx
   obtain ⟨C3,k3,a3,sup⟩ := back G2 C2 k2 e2
   have keep : Keeps1 C' C3 p := fun q o hqp hcq => sup q o (.inr (by rw [hcq]; simp)) (e2 q o hqp (s1 q o hcq))
   have ka : ∀ j o,C' j = some (.arr o) → C3 j = some (.arr o) := fun j o hj => keep j _ (fun ej => by subst ej; rw [hc] at hj; cases hj) hj
   have r3 : RdR B H C3 p (one st').2 := r2.mono fun o ho => sup p o (.inr (by rw [hc]; simp)) ho
   have a3' : AccA H (G2 ++ [.arr x]) C3 G.length 32 v cs := by
    obtain ⟨h0,h1 | ⟨q,z1,z2,z3,z4,z5⟩⟩ := a3
    ·exact ⟨h0,.inl h1⟩
    ·exact ⟨h0,.inr ⟨q,z1,z2,z3,get_pre z4,z5⟩⟩
   have hu : Sl B (G2 ++ [.arr x]) 32 (.slice (.new G2.length) 0 1 32 (some 1)) [x] := sl_row1 hrow
   refine op_appA (k3.grow [.arr x]) a3' (by rw [List.length_append]; omega) hu (by simp) (by rw [hl]; simp only [List.length_singleton]; omega) fun v' G4 k4 a4 l4 => ?_
   rw [w64 (by omega)]
   rw [List.length_append] at l4
   refine ih (i + 1) G4 C3 v' (cs ++ [x]) (acc ++ [(one st').1]) (one st').2 (by omega) (by rw [List.length_append,hl]; rfl) (by omega) k4 (e.trans keep) r3 (Nat.le_trans (hle st') hs') a4 (F2.snoc (hf.mono fun x a hx => hE _ _ x a (fun es v rows hv => hv.mono (Nat.le_refl _) fun j o _ hj => ka j o hj) hx) (hE _ _ x _ (fun es v rows hv => hv.mono (by omega) fun j o hj hc => sup j _ (.inl hj) hc) hx)) hgo
 exact go (numP most st).1 0 G1 C1 .nils [] [] (numP most st).2 (Nat.zero_add _) rfl l1 k1 e1 r1 (Nat.le_trans hm.2 hs) ⟨fun r hr => by simp at hr,.inl ⟨rfl,rfl⟩⟩ F2.nil rfl
theorem f90_rd {α : Type} {one : RS → α × RS} {E : MM → AV → α → Prop} {Inv : (Nat → Option AObj) → Prop} {fv : AV} {most : Nat} (hE : ∀ (M M' : MM) x a,(∀ es v rows,M es v rows → M' es v rows) → E M x a → E M' x a) (hlen : ∀ C k x a,E (SlF C k) x a → (x = .nils ∨ ∃ o off len es cap,x = .slice o off len es cap))
  (hInv : ∀ C C',Keeps1 C C' p → Inv C → Inv C') (hle : ∀ st,(one st).2.1.length ≤ st.1.length) (hone : OneK B H p fv (fun u : AV => u) E one Inv) (hmost : most ≤ 1000) (h : KW H G C) (hr : RdR B H C p st) (hs : st.1.length ≤ 1000000) (hi : Inv C)
  (hq : ∀ v G' C',KW H G' C' → Keeps1 C C' p → RdR B H C' p (listP one most st).2 → G.length ≤ G'.length → LV E (SlF C' G.length) v (listP one most st).1 → Q v G') : Cl B 90 [pt p,.int .i64 (most : Int),fv] G Q := by
 have hbig : maxBytes = 140737488355328 := rfl
 refine f90_in fun n cl hn hcl hH hA => ?_
 subst hcl
 refine f51_ok (most := most) h hr (by omega) fun G1 C1 k1 e1 r1 l1 => int_i ?_
 have hm := numP_le most st
 have go : ∀ (f i : Nat) (G' : Heap) (C' : Nat → Option AObj) (v : AV) (cs : List AV) (acc : List α) (st' : RS),i + f = (numP most st).1 → cs.length = i → G.length ≤ G'.length → KW H G' C' → Keeps1 C C' p → RdR B H C' p st' → st'.1.length ≤ 1000000 → AccA H G' C' G.length 1 v (cs.map fun u => [u]) → F2 (E (SlF C' G.length)) cs acc → listGo one f acc st' = listP one most st →
   L90_0 B (Cl B) n (pt p) fv v ((numP most st).1 : Int) (i : Int) G' Q := by
  intro f
  induction f with
  | zero =>
   intro i G' C' v cs acc st' hif hl hG k e r hs' ha hf hgo
   refine L90_0_in (ACall.cle B table) (bs_dec (fun h1 => by omega) fun _ => J90_1_in (tidy_none ?_))
   obtain ⟨bv,hc,hrest⟩ := r
   obtain ⟨C2,k2,s2,t2,_⟩ := ha.back k hc
   simp only [listGo] at hgo
   rw [← hgo] at hq
   refine hq v G' C2 k2 (fun q o hqp hcq => s2 q o (e q o hqp hcq)) ⟨bv,s2 _ _ hc,hrest⟩ hG ⟨cs,t2,hf.mono fun x a hx => hE _ _ x a (fun es v rows hv => hv.mono (Nat.le_refl _) fun j o _ hj => s2 j _ hj) hx⟩
  | succ f ih =>
   intro i G' C' v cs acc st' hif hl hG k e r hs' ha hf hgo
   obtain ⟨bv,hc,hrest⟩ := r
   have hp := k.lt hc
   refine L90_0_in (ACall.cle B table) (bs_dec (fun _ => op_nil (op_fldP ?_)) fun h1 => absurd (by omega) h1)
   rw [peekV (k.cs p _ hc) (v := .bool st'.2) rfl,ob_some,pBool_bool]
   refine bs_iff.2 ⟨fun hw => tidy_none ?_,fun hw => ?_⟩
   ·simp only [listGo,hw,if_true] at hgo
    rw [← hgo] at hq
    exact hq .nils G' C' k e ⟨bv,hc,hrest⟩ hG ⟨[],⟨fun r hr => by simp at hr,.inl ⟨rfl,rfl⟩⟩,F2.nil⟩
   simp only [listGo,hw] at hgo
   obtain ⟨C1',kC1,s1,t1,back⟩ := ha.back k hc
   have r1' : RdR B H C1' p st' := ⟨bv,s1 _ _ hc,hrest⟩
   have i1 : Inv C1' := hInv C C1' (fun q o hqp hcq => s1 q o (e q o hqp hcq)) hi
   refine hone G' C1' st' _ kC1 r1' hs' i1 fun G2 C2 x k2 e2 r2 l2 hx => live_isL (hlen _ _ _ _ hx) ?_
   rw [lay_one (cells_isL (hlen _ _ _ _ hx)) rfl,ob_some]
   refine slK_in ?_
   obtain ⟨C3,k3,a3,sup⟩ := back G2 C2 k2 e2
   have keep : Keeps1 C' C3 p := fun q o hqp hcq => sup q o (.inr (by rw [hcq]; simp)) (e2 q o hqp (s1 q o hcq))
   have ka : ∀ j o,C' j = some (.arr o) → C3 j = some (.arr o) := fun j o hj => keep j _ (fun ej => by subst ej; rw [hc] at hj; cases hj) hj
   have r3 : RdR B H C3 p (one st').2 := r2.mono fun o ho => sup p o (.inr (by rw [hc]; simp)) ho
   have a3' : AccA H (G2 ++ [.arr [x]]) C3 G.length 1 v (cs.map fun u => [u]) := by
    obtain ⟨h0,h1 | ⟨q,z1,z2,z3,z4,z5⟩⟩ := a3
    ·exact ⟨h0,.inl h1⟩
    ·exact ⟨h0,.inr ⟨q,z1,z2,z3,get_pre z4,z5⟩⟩
   have hu : Sl B (G2 ++ [.arr [x]]) 1 (.slice (.new G2.length) 0 1 1 (some 1)) [[x]] := sl_row1 rfl
   refine op_appA (k3.grow [.arr [x]]) a3' (by rw [List.length_append]; omega) hu (by simp) (by rw [List.length_map,hl]; simp only [List.length_singleton]; omega) fun v' G4 k4 a4 l4 => ?_
   rw [w64 (by omega)]
   rw [List.length_append] at l4
   refine ih (i + 1) G4 C3 v' (cs ++ [x]) (acc ++ [(one st').1]) (one st').2 (by omega) (by rw [List.length_append,hl]; rfl) (by omega) k4 (e.trans keep) r3 (Nat.le_trans (hle st') hs') (by rw [List.map_append]; exact a4) (F2.snoc (hf.mono fun x a hx => hE _ _ x a (fun es v rows hv => hv.mono (Nat.le_refl _) fun j o _ hj => ka j o hj) hx) (hE _ _ x _ (fun es v rows hv => hv.mono (by omega) fun j o hj hc => sup j _ (.inl hj) hc) hx)) hgo
 exact go (numP most st).1 0 G1 C1 .nils [] [] (numP most st).2 (Nat.zero_add _) rfl l1 k1 e1 r1 (Nat.le_trans hm.2 hs) ⟨fun r hr => by simp at hr,.inl ⟨rfl,rfl⟩⟩ F2.nil rfl
theorem f101_rd {α : Type} {one : RS → α × RS} {E : MM → AV → α → Prop} {Inv : (Nat → Option AObj) → Prop} {fv : AV} {most : Nat} (hE : ∀ (M M' : MM) x a,(∀ es v rows,M es v rows → M' es v rows) → E M x a → E M' x a) (hlen : ∀ C k x a,E (SlF C k) x a → (x = .nils ∨ ∃ o off len es cap,x = .slice o off len es cap))
  (hInv : ∀ C C',Keeps1 C C' p → Inv C → Inv C') (hle : ∀ st,(one st).2.1.length ≤ st.1.length) (hone : OneK B H p fv (fun u : AV => u) E one Inv) (hmost : most ≤ 1000) (h : KW H G C) (hr : RdR B H C p st) (hs : st.1.length ≤ 1000000) (hi : Inv C)
  (hq : ∀ v G' C',KW H G' C' → Keeps1 C C' p → RdR B H C' p (listP one most st).2 → G.length ≤ G'.length → LV E (SlF C' G.length) v (listP one most st).1 → Q v G') : Cl B 101 [pt p,.int .i64 (most : Int),fv] G Q := by
 have hbig : maxBytes = 140737488355328 := rfl
 refine f101_in fun n cl hn hcl hH hA => ?_
 subst hcl
 refine f51_ok (most := most) h hr (by omega) fun G1 C1 k1 e1 r1 l1 => int_i ?_
 have hm := numP_le most st
 have go : ∀ (f i : Nat) (G' : Heap) (C' : Nat → Option AObj) (v : AV) (cs : List AV) (acc : List α) (st' : RS),i + f = (numP most st).1 → cs.length = i → G.length ≤ G'.length → KW H G' C' → Keeps1 C C' p → RdR B H C' p st' → st'.1.length ≤ 1000000 → AccA H G' C' G.length 1 v (cs.map fun u => [u]) → F2 (E (SlF C' G.length)) cs acc → listGo one f acc st' = listP one most st →
   L101_0 B (Cl B) n (pt p) fv v ((numP most st).1 : Int) (i : Int) G' Q := by
  intro f
  induction f with
  | zero =>
   intro i G' C' v cs acc st' hif hl hG k e r hs' ha hf hgo
   refine L101_0_in (ACall.cle B table) (bs_dec (fun h1 => by omega) fun _ => J101_1_in (tidy_none ?_))
   obtain ⟨bv,hc,hrest⟩ := r
   obtain ⟨C2,k2,s2,t2,_⟩ := ha.back k hc
   simp only [listGo] at hgo
   rw [← hgo] at hq
   refine hq v G' C2 k2 (fun q o hqp hcq => s2 q o (e q o hqp hcq)) ⟨bv,s2 _ _ hc,hrest⟩ hG ⟨cs,t2,hf.mono fun x a hx => hE _ _ x a (fun es v rows hv => hv.mono (Nat.le_refl _) fun j o _ hj => s2 j _ hj) hx⟩
  | succ f ih =>
   intro i G' C' v cs acc st' hif hl hG k e r hs' ha hf hgo
   obtain ⟨bv,hc,hrest⟩ := r
   have hp := k.lt hc
   refine L101_0_in (ACall.cle B table) (bs_dec (fun _ => op_nil (op_fldP ?_)) fun h1 => absurd (by omega) h1)
   rw [peekV (k.cs p _ hc) (v := .bool st'.2) rfl,ob_some,pBool_bool]
   refine bs_iff.2 ⟨fun hw => tidy_none ?_,fun hw => ?_⟩
   ·simp only [listGo,hw,if_true] at hgo
    rw [← hgo] at hq
    exact hq .nils G' C' k e ⟨bv,hc,hrest⟩ hG ⟨[],⟨fun r hr => by simp at hr,.inl ⟨rfl,rfl⟩⟩,F2.nil⟩
   simp only [listGo,hw] at hgo
   obtain ⟨C1',kC1,s1,t1,back⟩ := ha.back k hc
   have r1' : RdR B H C1' p st' := ⟨bv,s1 _ _ hc,hrest⟩
   have i1 : Inv C1' := hInv C C1' (fun q o hqp hcq => s1 q o (e q o hqp hcq)) hi
   refine hone G' C1' st' _ kC1 r1' hs' i1 fun G2 C2 x k2 e2 r2 l2 hx => live_isL (hlen _ _ _ _ hx) ?_
   rw [lay_one (cells_isL (hlen _ _ _ _ hx)) rfl,ob_some]
   refine slK_in ?_
   obtain ⟨C3,k3,a3,sup⟩ := back G2 C2 k2 e2
   have keep : Keeps1 C' C3 p := fun q o hqp hcq => sup q o (.inr (by rw [hcq]; simp)) (e2 q o hqp (s1 q o hcq))
   have ka : ∀ j o,C' j = some (.arr o) → C3 j = some (.arr o) := fun j o hj => keep j _ (fun ej => by subst ej; rw [hc] at hj; cases hj) hj
   have r3 : RdR B H C3 p (one st').2 := r2.mono fun o ho => sup p o (.inr (by rw [hc]; simp)) ho
   have a3' : AccA H (G2 ++ [.arr [x]]) C3 G.length 1 v (cs.map fun u => [u]) := by
    obtain ⟨h0,h1 | ⟨q,z1,z2,z3,z4,z5⟩⟩ := a3
    ·exact ⟨h0,.inl h1⟩
    ·exact ⟨h0,.inr ⟨q,z1,z2,z3,get_pre z4,z5⟩⟩
   have hu : Sl B (G2 ++ [.arr [x]]) 1 (.slice (.new G2.length) 0 1 1 (some 1)) [[x]] := sl_row1 rfl
   refine op_appA (k3.grow [.arr [x]]) a3' (by rw [List.length_append]; omega) hu (by simp) (by rw [List.length_map,hl]; simp only [List.length_singleton]; omega) fun v' G4 k4 a4 l4 => ?_
   rw [w64 (by omega)]
   rw [List.length_append] at l4
   refine ih (i + 1) G4 C3 v' (cs ++ [x]) (acc ++ [(one st').1]) (one st').2 (by omega) (by rw [List.length_append,hl]; rfl) (by omega) k4 (e.trans keep) r3 (Nat.le_trans (hle st') hs') (by rw [List.map_append]; exact a4) (F2.snoc (hf.mono fun x a hx => hE _ _ x a (fun es v rows hv => hv.mono (Nat.le_refl _) fun j o _ hj => ka j o hj) hx) (hE _ _ x _ (fun es v rows hv => hv.mono (by omega) fun j o hj hc => sup j _ (.inl hj) hc) hx)) hgo
 exact go (numP most st).1 0 G1 C1 .nils [] [] (numP most st).2 (Nat.zero_add _) rfl l1 k1 e1 r1 (Nat.le_trans hm.2 hs) ⟨fun r hr => by simp at hr,.inl ⟨rfl,rfl⟩⟩ F2.nil rfl
end
end Go.Am
namespace Go.Am
open Go
def BsM (M : MM) (v : AV) (s : List UInt8) : Prop := M 1 v (s.map brw)
def PathM (M : MM) (v : AV) (l : List (List UInt8)) : Prop := M 32 v (l.map dg)
def OpM (M : MM) (c : List AV) (o : Opn) : Prop := ∃ lv pv,c = [.int .i64 o.at_,lv,pv] ∧ BsM M lv o.leaf ∧ PathM M pv o.path
def PtM (M : MM) (c : List AV) (p : Pnt) : Prop := ∃ ca cb,c = .bool p.btw :: (ca ++ cb) ∧ OpM M ca p.a ∧ OpM M cb p.b
def SnM (M : MM) (c : List AV) (x : Spn) : Prop := ∃ lv pv,c = [.int .i64 x.frm,lv,pv] ∧ LV BsM M lv x.leaves ∧ PathM M pv x.path
def EsM (M : MM) (v : AV) (l : List Ent) : Prop := M 4 v (l.map Ent.row)
section
variable {M M' : MM} (h : ∀ es v rows,M es v rows → M' es v rows)
include h
theorem BsM.mono {v : AV} {s : List UInt8} (a : BsM M v s) : BsM M' v s := h _ _ _ a
theorem PathM.mono {v : AV} {s : List (List UInt8)} (a : PathM M v s) : PathM M' v s := h _ _ _ a
theorem OpM.mono {c : List AV} {o : Opn} (a : OpM M c o) : OpM M' c o := by
 obtain ⟨lv,pv,e,h1,h2⟩ := a
 exact ⟨lv,pv,e,h _ _ _ h1,h _ _ _ h2⟩
theorem PtM.mono {c : List AV} {o : Pnt} (a : PtM M c o) : PtM M' c o := by
 obtain ⟨lv,pv,e,h1,h2⟩ := a
 exact ⟨lv,pv,e,h1.mono h,h2.mono h⟩
theorem LE.mono {α : Type} {es : Nat} {E : MM → List AV → α → Prop} (hE : ∀ x a,E M x a → E M' x a) {v : AV} {l : List α} (a : LE es E M v l) : LE es E M' v l := by
 obtain ⟨cs,h1,h2⟩ := a
 exact ⟨cs,h _ _ _ h1,h2.mono hE⟩
theorem LV.mono {α : Type} {E : MM → AV → α → Prop} (hE : ∀ x a,E M x a → E M' x a) {v : AV} {l : List α} (a : LV E M v l) : LV E M' v l := by
 obtain ⟨cs,h1,h2⟩ := a
 exact ⟨cs,h _ _ _ h1,h2.mono hE⟩
theorem SnM.mono {c : List AV} {o : Spn} (a : SnM M c o) : SnM M' c o := by
 obtain ⟨lv,pv,e,h1,h2⟩ := a
 exact ⟨lv,pv,e,h1.mono h fun _ _ h3 => h3.mono h,h _ _ _ h2⟩
end
def digP (st : RS) : List UInt8 × RS := (st.1.take 32 ++ List.replicate (32 - min st.1.length 32) 0,takesF st (min st.1.length 32) (decide (((min st.1.length 32 : Nat) : Int) = 32)))
def pathP (st : RS) : List (List UInt8) × RS := listP digP 64 st
def opP (st : RS) : Opn × RS := (⟨((numP 1099511627776 st).1 : Int),(textP (numP 1099511627776 st).2).1,(pathP (textP (numP 1099511627776 st).2).2).1⟩,(pathP (textP (numP 1099511627776 st).2).2).2)
def ptP (st : RS) : Pnt × RS :=
 if (numP 1 st).1 = 1 then (⟨true,(opP (numP 1 st).2).1,(opP (opP (numP 1 st).2).2).1⟩,(opP (opP (numP 1 st).2).2).2)
 else (⟨false,(opP (numP 1 st).2).1,⟨0,[],[]⟩⟩,(opP (numP 1 st).2).2)
def spP (st : RS) : Spn × RS := (⟨((numP 1099511627776 st).1 : Int),(listP textP 64 (numP 1099511627776 st).2).1,(pathP (listP textP 64 (numP 1099511627776 st).2).2).1⟩,(pathP (listP textP 64 (numP 1099511627776 st).2).2).2)
def rowP (st : RS) : List Ent × RS := listP entP 64 st
theorem digP_le (st : RS) : (digP st).2.1.length ≤ st.1.length := takesF_le _ _ _
theorem digP_len (st : RS) : (digP st).1.length = 32 := by
 unfold digP; simp only [List.length_append,List.length_take,List.length_replicate]; omega
theorem entP_le (st : RS) : (entP st).2.1.length ≤ st.1.length := takesF_le _ _ _
theorem pathP_le (st : RS) : (pathP st).2.1.length ≤ st.1.length := (listP_le digP_le 64 st).1
theorem opP_le (st : RS) : (opP st).2.1.length ≤ st.1.length := Nat.le_trans (pathP_le _) (Nat.le_trans (textP_le _).2 (numP_le _ _).2)
theorem ptP_le (st : RS) : (ptP st).2.1.length ≤ st.1.length := by
 unfold ptP
 split
 ·exact Nat.le_trans (opP_le _) (Nat.le_trans (opP_le _) (numP_le _ _).2)
 ·exact Nat.le_trans (opP_le _) (numP_le _ _).2
theorem spP_le (st : RS) : (spP st).2.1.length ≤ st.1.length := Nat.le_trans (pathP_le _) (Nat.le_trans (listP_le (fun st => (textP_le st).2) 64 _).1 (numP_le _ _).2)
theorem rowP_le (st : RS) : (rowP st).2.1.length ≤ st.1.length := (listP_le entP_le 64 st).1
section
variable {B : Base} {n : Nat} {H G : Heap} {C : Nat → Option AObj} {Q : AV → Heap → Prop} {p : Nat} {st : RS}
theorem slF_isL {k0 es : Nat} {v : AV} {rows : List (List AV)} (h : SlF C k0 es v rows) : v = .nils ∨ ∃ o off len es cap,v = .slice o off len es cap := by
 obtain h1 | ⟨o,off,len,cap,h1⟩ := h.isL
 ·exact .inl h1
 ·exact .inr ⟨o,off,len,es,cap,h1⟩
theorem ret_place {x1 m : Nat} {z c : List AV} (k : KW H G C) (c1 : C x1 = some (.var z)) (hz : z.length = m) (hc : c.length = m) (hq : Q (.agg c) (G.set x1 (.var c))) :
  aop B E0 G (fun _ H16 => ob (peekN B H16 m (pt x1)) fun c17 => tidyK n Q (.agg c17) H16) (.st m (.const (pt x1)) (.const (.agg c))) := by
 refine op_st (c := z) (vs := c) rfl hc (k.cs x1 _ c1) (by omega) ?_
 rw [putAt_all (by omega),show peekN B (G.set x1 (.var c)) m (pt x1) = some c from peekVN (get_set (k.lt c1)) hc,ob_some]
 exact tidy_none hq
theorem SlF.upd {k0 x1 : Nat} {z : List AV} {o : AObj} (c1 : C x1 = some (.var z)) : ∀ es v rows,SlF C k0 es v rows → SlF (updC C x1 o) k0 es v rows := fun es v rows h =>
 h.mono (Nat.le_refl _) fun j o' _ hj => by rw [updC_ne (fun e => by subst e; rw [c1] at hj; cases hj)]; exact hj
theorem SlF.add {k0 : Nat} {o : AObj} (k : KW H G C) : ∀ es v rows,SlF C k0 es v rows → SlF (updC C G.length o) k0 es v rows := fun es v rows h =>
 h.mono (Nat.le_refl _) fun j o' _ hj => keeps_add k j _ hj
theorem SlF.keep {C' : Nat → Option AObj} {k0 : Nat} {z : List AV} (c1 : C p = some (.var z)) (e : Keeps1 C C' p) : ∀ es v rows,SlF C k0 es v rows → SlF C' k0 es v rows := fun es v rows h =>
 h.mono (Nat.le_refl _) fun j o' _ hj => e j _ (fun e => by subst e; rw [c1] at hj; cases hj) hj
theorem SlF.low {k0 k1 : Nat} (hk : k1 ≤ k0) : ∀ es v rows,SlF C k0 es v rows → SlF C k1 es v rows := fun es v rows h => h.mono hk fun _ _ _ h => h
theorem RdR.var (h : RdR B H C p st) : ∃ z,C p = some (.var z) := by obtain ⟨bv,h1,_⟩ := h; exact ⟨_,h1⟩
theorem op_toBy {t : List UInt8} {K : AV → Heap → Prop} (k : KW H G C) (hk : ∀ G',KW H G' (updC C G.length (.arr (t.map brw).flatten)) → G'.length = G.length + 1 → SlF (updC C G.length (.arr (t.map brw).flatten)) G.length 1 (.slice (.new G.length) 0 t.length 1 none) (t.map brw) → K (.slice (.new G.length) 0 t.length 1 none) G') :
  aop B E0 G K (.toBytes (.const (.str t))) := by
 have := hk (G ++ [.arr (t.map brw).flatten]) (k.add _) (by simp) ⟨brws_len _,.inr ⟨G.length,none,by rw [List.length_map],Nat.le_refl _,updC_at⟩⟩
 simp only [aop,opK,Opd.look,ob_some,pStr_str]
 rw [← brws_cells]; exact this
theorem zeros_row : (z32 : List AV) = dg (List.replicate 32 0) := rfl
theorem dg_app (a b : List UInt8) : dg (a ++ b) = dg a ++ dg b := by simp [dg]
theorem op_copy32 {k : Nat} {u : AV} {s : List UInt8} {K : AV → Heap → Prop} (hg : G[k]? = some (.var (dg (List.replicate 32 0)))) (hu : Bs B G u s)
  (hk : K (.int .i64 ((min s.length 32 : Nat) : Int)) (G.set k (.var (dg (s.take 32 ++ List.replicate (32 - min s.length 32) 0))))) : aop B E0 G K (.copyL 1 (.const (.slice (.new k) 0 32 1 (some 32))) (.const u)) := by
 obtain ⟨h0,⟨rfl,hs⟩ | ⟨o,off,cap,rfl,hc⟩⟩ := hu
 ·have hs : s = [] := by simpa using hs
  subst hs
  simp only [aop,opK,Opd.look,ob_some,lenOf]
  have e : G.set k (.var (dg (([] : List UInt8).take 32 ++ List.replicate (32 - min ([] : List UInt8).length 32) 0))) = G := set_same (by simpa using hg)
  rw [e] at hk
  exact hk
 ·rw [List.length_map] at hc
  have hm : min s.length 32 ≤ s.length := Nat.min_le_left ..
  have h2 := cellsAt_sub hc (j := 0) (m := min s.length 32) (by omega)
  simp only [aop,opK,Opd.look,ob_some,lenOf,List.length_map]
  rw [if_pos ⟨trivial,trivial⟩]
  have e1 : ((s.map brw).flatten.drop 0).take (min s.length 32) = dg (s.take 32) := by
   rw [List.drop_zero]
   have : (s.map brw).flatten = dg (s.take 32) ++ dg (s.drop 32) := by rw [← dg_app,List.take_append_drop]; rfl
   rw [this,List.take_left' (by rw [dg_len,List.length_take]; omega)]
  rw [Nat.add_zero,e1] at h2
  rw [Nat.mul_one,h2,ob_some]
  simp only [pokeAt,hg]
  rw [if_pos (by rw [dg_len,dg_len,List.length_take,List.length_replicate]; omega),ob_some]
  have e3 : putAt (dg (List.replicate 32 0)) 0 (dg (s.take 32)) = dg (s.take 32 ++ List.replicate (32 - min s.length 32) 0) := by
   unfold putAt
   rw [dg_app,List.take_zero,List.nil_append,Nat.zero_add,dg_len,List.length_take]
   congr 1
   have : List.replicate 32 (0 : UInt8) = List.replicate (min 32 s.length) 0 ++ List.replicate (32 - min 32 s.length) 0 := by
    rw [List.replicate_append_replicate]; congr 1; omega
   rw [this,dg_app,List.drop_left' (by rw [dg_len,List.length_replicate]),Nat.min_comm]
  rw [e3]; exact hk
theorem f104_ok (h : KW H G C) (hr : RdR B H C p st) (hq : RdK B H G C p (digP st).2 fun G' _ => Q (.agg (dg (digP st).1)) G') : Cl B 104 [pt p] G Q := by
 have hr0 := hr
 obtain ⟨bv,hc,hp,hb,hcap⟩ := hr
 refine f104_in fun n cl hn hcl hH hA => op_alloc ?_
 subst hcl
 rw [zeros_row]
 have k1 := h.add (.var (dg (List.replicate 32 0)))
 have hHG := h.le
 have hpG := h.lt hc
 have c1 : updC C G.length (.var (dg (List.replicate 32 0))) G.length = some (.var (dg (List.replicate 32 0))) := updC_at
 have e1 := keeps_add (o := .var (dg (List.replicate 32 0))) h
 have hsl : ∀ K' : AV → Heap → Prop,K' (.slice (.new G.length) 0 32 1 (some 32)) (G ++ [.var (dg (List.replicate 32 0))]) → aop B E0 (G ++ [.var (dg (List.replicate 32 0))]) K' (.sliceA 32 1 (.const (.ptr (some (.new G.length,0)))) none none) := fun K' hK => hK
 refine hsl _ ?_
 have hg1 := k1.cs _ _ c1
 have hbG := k1.bs hb
 have d1 := e1 p _ hc
 have hgp := k1.cs p _ d1
 generalize hx1 : G.length = x1 at *
 generalize updC C x1 (.var (dg (List.replicate 32 0))) = C1 at k1 c1 e1 d1
 have hl1 : x1 ≤ (G ++ [AObj.var (dg (List.replicate 32 0))]).length := by rw [List.length_append]; omega
 generalize G ++ [AObj.var (dg (List.replicate 32 0))] = G1 at k1 hg1 hbG hgp hl1 ⊢
 refine op_nil (op_fldP ?_)
 rw [peekV hgp (v := bv) rfl,ob_some]
 refine Sl.live hbG _ (op_copy32 hg1 hbG ?_)
 have k2 := k1.set c1 (by omega) (.var (dg (st.1.take 32 ++ List.replicate (32 - min st.1.length 32) 0)))
 rw [pInt_int]
 refine ib_eq ?_
 have r2 : RdR B H (updC C1 x1 (.var (dg (st.1.take 32 ++ List.replicate (32 - min st.1.length 32) 0)))) p st := hr0.mono fun o ho => by rw [updC_ne (by omega)]; exact e1 p o ho
 refine f79_ok k2 r2 (fun _ => Nat.min_le_left ..) fun G4 C4 k4 e4 r4 l4 => tyK_bool ?_
 have c14 : C4 x1 = some (.var (dg (digP st).1)) := e4 _ _ (by omega) updC_at
 rw [show peekN B G4 32 (.ptr (some (.new x1,0))) = some (dg (digP st).1) from peekVN (k4.cs _ _ c14) (by rw [dg_len,digP_len]),ob_some]
 refine ret_place k4 c14 (by rw [dg_len,digP_len]) (by rw [dg_len,digP_len]) (hq _ _ (k4.set c14 (by omega) _) (fun q o hqp hcq => ?_) (r4.mono fun o ho => by rw [updC_ne (by omega)]; exact ho) (by rw [List.length_set] at l4 ⊢; omega))
 have h1 := e1 q o hcq
 have h2 := h.lt hcq
 rw [updC_ne (by omega)]
 exact e4 q o hqp (by rw [updC_ne (by omega)]; exact h1)
theorem dig_one : OneK B H p (.func (.func 104) [pt p] []) (fun c : List AV => AV.agg c) (fun _ x (a : List UInt8) => x = dg a ∧ a.length = 32) digP (fun _ => True) := fun G C st Q k r hs _ hq => calleeK_val (f104_ok k r fun G' C' k' e' r' l' => hq G' C' _ k' e' r' l' ⟨rfl,digP_len st⟩)
theorem le_path {M : MM} {v : AV} {l : List (List UInt8)} (h : LE 32 (fun _ x (a : List UInt8) => x = dg a ∧ a.length = 32) M v l) : PathM M v l := by
 obtain ⟨cs,h1,h2,h3⟩ := h
 have : cs = l.map dg := by
  apply List.ext_getElem?
  intro i
  rcases Nat.lt_or_ge i cs.length with hi | hi
  ·rw [List.getElem?_map,List.getElem?_eq_getElem hi,List.getElem?_eq_getElem (by omega)]
   have := (h3 i _ _ (List.getElem?_eq_getElem hi) (List.getElem?_eq_getElem (by omega))).1
   rw [this]; rfl
  ·rw [List.getElem?_eq_none hi,List.getElem?_eq_none (by rw [List.length_map]; omega)]
 subst this
 exact h1
theorem path_rd (h : KW H G C) (hr : RdR B H C p st) (hs : st.1.length ≤ 1000000) (hq : ∀ v G' C',KW H G' C' → Keeps1 C C' p → RdR B H C' p (pathP st).2 → G.length ≤ G'.length → PathM (SlF C' G.length) v (pathP st).1 → Q v G') :
  Cl B 103 [pt p,.int .i64 64,.func (.func 104) [pt p] []] G Q :=
 f103_rd (most := 64) (Inv := fun _ => True) (fun M M' x a _ h => h) (fun C k x a h => by rw [h.1,dg_len]; exact h.2) (fun _ _ _ _ => trivial) digP_le dig_one (by omega) h hr hs trivial fun v G' C' k' e' r' l' hv => hq v G' C' k' e' r' l' (le_path hv)
theorem f100_ok (h : KW H G C) (hr : RdR B H C p st) (hs : st.1.length ≤ 1000000) (hq : ∀ c,RdK B H G C p (opP st).2 fun G' C' => OpM (SlF C' G.length) c (opP st).1 → Q (.agg c) G') : Cl B 100 [pt p] G Q := by
 refine f100_in fun n cl hn hcl hH hA => op_alloc ?_
 subst hcl
 have hHG := h.le
 obtain ⟨z0,hc⟩ := hr.var
 have hpG := h.lt hc
 have k1 := h.add (.var [.int .i64 0,.nils,.nils])
 have e1 := keeps_add (o := .var [.int .i64 0,.nils,.nils]) h
 have c1 : updC C G.length (.var [.int .i64 0,.nils,.nils]) G.length = some (.var [.int .i64 0,.nils,.nils]) := updC_at
 have r1 := hr.mono (C' := updC C G.length (.var [.int .i64 0,.nils,.nils])) fun o ho => e1 p o ho
 have l1 : G.length + 1 = (G ++ [AObj.var [.int .i64 0,.nils,.nils]]).length := by simp
 generalize updC C G.length (.var [.int .i64 0,.nils,.nils]) = C1 at k1 e1 c1 r1
 generalize G ++ [AObj.var [.int .i64 0,.nils,.nils]] = G1 at k1 l1 ⊢
 refine f51_ok (most := 1099511627776) k1 r1 (by decide) fun G2 C2 k2 e2 r2 l2 => int_i ?_
 have s2 := (numP_le 1099511627776 st).2
 refine f50_ok k2 r2 (by omega) fun G3 C3 k3 e3 r3 l3 => ?_
 have s3 := (textP_le (numP 1099511627776 st).2).2
 refine str_u (op_toBy k3 fun G4 k4 l4 b4 => ?_)
 have r4 := r3.mono (C' := updC C3 G3.length (.arr ((textP (numP 1099511627776 st).2).1.map brw).flatten)) fun o ho => keeps_add k3 p o ho
 have e4 : Keeps1 C3 (updC C3 G3.length (.arr ((textP (numP 1099511627776 st).2).1.map brw).flatten)) p := fun q o _ hq => keeps_add k3 q o hq
 generalize updC C3 G3.length (.arr ((textP (numP 1099511627776 st).2).1.map brw).flatten) = C4 at k4 b4 r4 e4
 generalize AV.slice (.new G3.length) 0 (textP (numP 1099511627776 st).2).1.length 1 none = lv at b4 ⊢
 refine path_rd k4 r4 (by omega) fun pv G5 C5 k5 e5 r5 l5 hpv => live_isL (slF_isL hpv) ?_
 have c15 : C5 G.length = some (.var [.int .i64 0,.nils,.nils]) := e5 _ _ (by omega) (e4 _ _ (by omega) (e3 _ _ (by omega) (e2 _ _ (by omega) c1)))
 rw [show layParts [(.int .i64 0),.nils,.nils] [(0,1,.int .i64 ((numP 1099511627776 st).1 : Int)),(1,1,lv),(2,1,pv)] = some [.int .i64 ((numP 1099511627776 st).1 : Int),lv,pv] from by
  obtain rfl | ⟨_,_,_,_,rfl⟩ := b4.isL <;> obtain rfl | ⟨_,_,_,_,rfl⟩ := hpv.isL <;> rfl,ob_some]
 refine ret_place k5 c15 rfl rfl (hq _ _ _ (k5.set c15 (by omega) _) (fun q o hqp hcq => ?_) (r5.mono fun o ho => by rw [updC_ne (by omega)]; exact ho) (by rw [List.length_set]; omega) ⟨lv,pv,rfl,?_,?_⟩)
 ·have h2 := h.lt hcq
  rw [updC_ne (by omega)]
  exact e5 _ _ hqp (e4 _ _ hqp (e3 _ _ hqp (e2 _ _ hqp (e1 q o hcq))))
 ·obtain ⟨z4,hz4⟩ := r4.var
  exact SlF.upd c15 _ _ _ (SlF.low (by omega) _ _ _ (SlF.keep hz4 e5 _ _ _ b4))
 ·exact SlF.upd c15 _ _ _ (SlF.low (by omega) _ _ _ hpv)
theorem OpM.three {M : MM} {c : List AV} {o : Opn} (h : OpM M c o) : c.length = 3 := by obtain ⟨_,_,rfl,_⟩ := h; rfl
theorem opz {M : MM} (hM : ∀ es,M es .nils []) : OpM M [.int .i64 0,.nils,.nils] ⟨0,[],[]⟩ := ⟨.nils,.nils,rfl,hM 1,hM 32⟩
theorem slF_nil {k0 : Nat} : ∀ es,SlF C k0 es .nils [] := fun es => ⟨fun r hr => by simp at hr,.inl ⟨rfl,rfl⟩⟩
end
end Go.Am
namespace Go.Am
open Go
section
variable {B : Base} {n : Nat} {H G : Heap} {C : Nat → Option AObj} {Q : AV → Heap → Prop} {p : Nat} {st : RS}
theorem f87_ok (h : KW H G C) (hr : RdR B H C p st) (hs : st.1.length ≤ 1000000) (hq : ∀ c,RdK B H G C p (ptP st).2 fun G' C' => PtM (SlF C' G.length) c (ptP st).1 → Q (.agg c) G') : Cl B 87 [pt p] G Q := by
 refine f87_in fun n cl hn hcl hH hA => op_alloc ?_
 subst hcl
 have hHG := h.le
 obtain ⟨z0,hc⟩ := hr.var
 have hpG := h.lt hc
 have k1 := h.add (.var [(.bool false),(.int .i64 0),.nils,.nils,(.int .i64 0),.nils,.nils])
 have e1 := keeps_add (o := .var [(.bool false),(.int .i64 0),.nils,.nils,(.int .i64 0),.nils,.nils]) h
 have c1 : updC C G.length (.var [(.bool false),(.int .i64 0),.nils,.nils,(.int .i64 0),.nils,.nils]) G.length = some (.var [(.bool false),(.int .i64 0),.nils,.nils,(.int .i64 0),.nils,.nils]) := updC_at
 have r1 := hr.mono (C' := updC C G.length (.var [(.bool false),(.int .i64 0),.nils,.nils,(.int .i64 0),.nils,.nils])) fun o ho => e1 p o ho
 have l1 : G.length + 1 = (G ++ [AObj.var [(.bool false),(.int .i64 0),.nils,.nils,(.int .i64 0),.nils,.nils]]).length := by simp
 generalize updC C G.length (.var [(.bool false),(.int .i64 0),.nils,.nils,(.int .i64 0),.nils,.nils]) = C1 at k1 e1 c1 r1
 generalize G ++ [AObj.var [(.bool false),(.int .i64 0),.nils,.nils,(.int .i64 0),.nils,.nils]] = G1 at k1 l1 ⊢
 refine f51_ok (most := 1) k1 r1 (by decide) fun G2 C2 k2 e2 r2 l2 => int_i (ib_eq ?_)
 have s2 := (numP_le 1 st).2
 refine f100_ok k2 r2 (by omega) fun ca G3 C3 k3 e3 r3 l3 hca => live_agg' ?_
 have s3 := opP_le (numP 1 st).2
 have hca3 := hca.three
 have hlay : ∀ d : Bool,layParts [(.bool false),(.int .i64 0),.nils,.nils,(.int .i64 0),.nils,.nils] [(0,1,.bool d),(1,3,.agg ca)] = some (.bool d :: (ca ++ [.int .i64 0,.nils,.nils])) := fun d => by
  obtain ⟨_,_,rfl,_⟩ := hca; rfl
 rw [hlay,ob_some]
 refine op_alloc (op_st_last rfl (by simp [hca3]) (op_fldP ?_))
 generalize hd : decide ((((numP 1 st).1 : Nat) : Int) = 1) = d
 have c13 : C3 G.length = some (.var [(.bool false),(.int .i64 0),.nils,.nils,(.int .i64 0),.nils,.nils]) := e3 _ _ (by omega) (e2 _ _ (by omega) c1)
 have k4 := k3.add (.var (.bool d :: (ca ++ [.int .i64 0,.nils,.nils])))
 have e4 : Keeps1 C3 (updC C3 G3.length (.var (.bool d :: (ca ++ [.int .i64 0,.nils,.nils])))) p := fun q o _ hq => keeps_add k3 q o hq
 have c24 : updC C3 G3.length (.var (.bool d :: (ca ++ [.int .i64 0,.nils,.nils]))) G3.length = some (.var (.bool d :: (ca ++ [.int .i64 0,.nils,.nils]))) := updC_at
 have r4 := r3.mono (C' := updC C3 G3.length (.var (.bool d :: (ca ++ [.int .i64 0,.nils,.nils])))) fun o ho => keeps_add k3 p o ho
 have m4 := SlF.add (o := .var (.bool d :: (ca ++ [.int .i64 0,.nils,.nils]))) (k0 := G2.length) k3
 have l4 : G3.length + 1 = (G3 ++ [AObj.var (.bool d :: (ca ++ [.int .i64 0,.nils,.nils]))]).length := by simp
 have hca4 := hca.mono m4
 generalize updC C3 G3.length (.var (.bool d :: (ca ++ [.int .i64 0,.nils,.nils]))) = C4 at k4 e4 c24 r4 hca4
 generalize hx2 : G3.length = x2 at c24 l4 ⊢
 generalize G3 ++ [AObj.var (.bool d :: (ca ++ [.int .i64 0,.nils,.nils]))] = G4 at k4 l4 ⊢
 have hne : x2 ≠ G.length := by omega
 have hnp : p ≠ x2 := by omega
 have fin : ∀ (pn : Pnt) (stf : RS) (cf : List AV) (G5 : Heap) (C5 : Nat → Option AObj),ptP st = (pn,stf) → KW H G5 C5 → Keeps1 C C5 p → C5 G.length = some (.var [(.bool false),(.int .i64 0),.nils,.nils,(.int .i64 0),.nils,.nils]) → C5 x2 = some (.var cf) → RdR B H C5 p stf → G.length ≤ G5.length → PtM (SlF C5 G.length) cf pn → cf.length = 7 →
   J87_0 B (Cl B) n (pt G.length) (pt x2) G5 Q := fun pn stf cf G5 C5 hpp k5 e5 c15 c25 r5 l5 hpt hl7 => by
  refine J87_0_in ?_
  rw [show peekN B G5 7 (pt x2) = some cf from peekVN (k5.cs _ _ c25) hl7,ob_some]
  rw [hpp] at hq
  refine ret_place k5 c15 rfl hl7 (hq cf _ _ (k5.set c15 hHG _) (fun q o hqp hcq => ?_) (r5.mono fun o ho => by rw [updC_ne (by omega)]; exact ho) (by rw [List.length_set]; exact l5) (hpt.mono (SlF.upd c15)))
  have := h.lt hcq
  rw [updC_ne (by omega)]; exact e5 q o hqp hcq
 rw [peekV (k4.cs _ _ c24) (v := .bool d) rfl,ob_some,pBool_bool]
 have e14 : Keeps1 C C4 p := fun q o hqp hcq => e4 _ _ hqp (e3 _ _ hqp (e2 _ _ hqp (e1 q o hcq)))
 have c14 := e4 _ _ (by omega) c13
 have oz : ∀ es,SlF C4 G.length es .nils [] := slF_nil
 refine bs_iff.2 ⟨fun hdt => ?_,fun hdf => ?_⟩
 ·refine f100_ok k4 r4 (by omega) fun cb G5 C5 k5 e5 r5 l5 hcb => live_agg' (op_fldP ?_)
  have hcb3 := hcb.three
  have c25 := e5 _ _ (by omega) c24
  have c15 := e5 _ _ (by omega) c14
  refine op_st (c := .bool d :: (ca ++ [.int .i64 0,.nils,.nils])) (vs := cb) rfl hcb3 (k5.cs _ _ c25) (by simp [hca3]) ?_
  have hput : putAt (.bool d :: (ca ++ [.int .i64 0,.nils,.nils])) (0 + 4) cb = .bool d :: (ca ++ cb) := by
   obtain ⟨_,_,rfl,_⟩ := hca; obtain ⟨_,_,rfl,_⟩ := hcb; rfl
  rw [hput]
  have hx2H : H.length ≤ x2 := by have := k3.le; omega
  have k6 := k5.set c25 hx2H (.var (.bool d :: (ca ++ cb)))
  have hb1 : (numP 1 st).1 = 1 := by rw [← hd] at hdt; have := of_decide_eq_true hdt; omega
  refine fin ⟨true,(opP (numP 1 st).2).1,(opP (opP (numP 1 st).2).2).1⟩ _ _ _ _ (by unfold ptP; rw [if_pos hb1]) k6 (fun q o hqp hcq => ?_) ?_ updC_at (r5.mono fun o ho => by rw [updC_ne hnp]; exact ho) (by rw [List.length_set]; omega) ⟨ca,cb,by rw [hdt],?_,?_⟩ (by simp [hca3,hcb3])
  ·have := h.lt hcq
   rw [updC_ne (by omega)]; exact e5 _ _ hqp (e14 q o hqp hcq)
  ·rw [updC_ne (Ne.symm hne)]; exact c15
  ·obtain ⟨z4,hz4⟩ := r4.var
   exact ((hca4.mono (SlF.keep hz4 e5)).mono (SlF.upd c25)).mono (SlF.low (by omega))
  ·exact (hcb.mono (SlF.upd c25)).mono (SlF.low (by omega))
 ·have hb1 : ¬ (numP 1 st).1 = 1 := fun e => by rw [← hd] at hdf; exact of_decide_eq_false hdf (by omega)
  refine fin ⟨false,(opP (numP 1 st).2).1,⟨0,[],[]⟩⟩ _ _ _ _ (by unfold ptP; rw [if_neg hb1]) k4 e14 c14 c24 r4 (by omega) ⟨ca,_,by rw [hdf],hca4.mono (SlF.low (by omega)),opz oz⟩ (by simp [hca3])
theorem pt_one : OneK B H p (.func (.func 87) [pt p] []) (fun c : List AV => AV.agg c) PtM ptP (fun _ => True) := fun G C st Q k r hs _ hq => calleeK_val (f87_ok k r hs fun c G' C' k' e' r' l' hx => hq G' C' c k' e' r' l' hx)
theorem PtM.seven {M : MM} {c : List AV} {o : Pnt} (h : PtM M c o) : c.length = 7 := by
 obtain ⟨ca,cb,rfl,h1,h2⟩ := h
 simp [h1.three,h2.three]
theorem leaf_one {w1 : Nat} (hw : w1 ≠ p) : OneK B H p (.func (.func 102) [] [pt w1]) (fun u : AV => u) BsM textP (fun C => C w1 = some (.var [pt p])) := fun G C st Q k r hs hi hq => by
 refine calleeK_val ?_
 show Cl B 102 [pt w1] G Q
 refine f102_in fun n cl hn hcl hH hA => ?_
 subst hcl
 rw [show peek B G (pt w1) = some (pt p) from peekV (k.cs _ _ hi) rfl,ob_some]
 refine live_pt' (f50_ok k r hs fun G3 C3 k3 e3 r3 l3 => str_u (op_toBy k3 fun G4 k4 l4 b4 => tidy_none (hq G4 _ _ k4 (fun q o hqp hcq => keeps_add k3 q o (e3 q o hqp hcq)) (r3.mono fun o ho => keeps_add k3 p o ho) (by omega) (SlF.low (by omega) _ _ _ b4))))
theorem f89_ok (h : KW H G C) (hr : RdR B H C p st) (hs : st.1.length ≤ 1000000) (hq : ∀ c,RdK B H G C p (spP st).2 fun G' C' => SnM (SlF C' G.length) c (spP st).1 → Q (.agg c) G') : Cl B 89 [pt p] G Q := by
 refine f89_in fun n cl hn hcl hH hA => op_box (c := [pt p]) rfl rfl (op_alloc ?_)
 subst hcl
 have hHG := h.le
 obtain ⟨z0,hc⟩ := hr.var
 have hpG := h.lt hc
 have k0 := h.add (.var [pt p])
 have hl0 : (G ++ [AObj.var [pt p]]).length = G.length + 1 := by simp
 have k1 := k0.add (.var [.int .i64 0,.nils,.nils])
 rw [hl0] at k1
 rw [hl0]
 have cw1 : updC (updC C G.length (.var [pt p])) (G.length + 1) (.var [.int .i64 0,.nils,.nils]) G.length = some (.var [pt p]) := by rw [updC_ne (by omega)]; exact updC_at
 have c1 : updC (updC C G.length (.var [pt p])) (G.length + 1) (.var [.int .i64 0,.nils,.nils]) (G.length + 1) = some (.var [.int .i64 0,.nils,.nils]) := updC_at
 have e1 : ∀ q o,C q = some o → updC (updC C G.length (.var [pt p])) (G.length + 1) (.var [.int .i64 0,.nils,.nils]) q = some o := fun q o hcq => by
  have := h.lt hcq
  rw [updC_ne (by omega),updC_ne (by omega)]; exact hcq
 have r1 := hr.mono (C' := updC (updC C G.length (.var [pt p])) (G.length + 1) (.var [.int .i64 0,.nils,.nils])) fun o ho => e1 p o ho
 have l1 : G.length + 2 = (G ++ [AObj.var [pt p]] ++ [AObj.var [.int .i64 0,.nils,.nils]]).length := by simp
 generalize updC (updC C G.length (.var [pt p])) (G.length + 1) (.var [.int .i64 0,.nils,.nils]) = C1 at k1 e1 c1 r1 cw1
 generalize G ++ [AObj.var [pt p]] ++ [AObj.var [.int .i64 0,.nils,.nils]] = G1 at k1 l1 ⊢
 have pk : ∀ {M : Heap} {D : Nat → Option AObj},KW H M D → D G.length = some (.var [pt p]) → peek B M (.ptr (some (.new G.length,0))) = some (pt p) := fun kk hh => peekV (kk.cs _ _ hh) rfl
 rw [pk k1 cw1,ob_some]
 refine live_pt' ?_
 rw [ob_some]
 refine live_pt' ?_
 rw [ob_some]
 refine live_pt' ?_
 rw [ob_some]
 refine live_pt' ?_
 refine f51_ok (most := 1099511627776) k1 r1 (by decide) fun G2 C2 k2 e2 r2 l2 => int_i ?_
 have s2 := (numP_le 1099511627776 st).2
 have cw2 := e2 _ _ (by omega) cw1
 have eq2 : ∀ {M : Heap} {D : Nat → Option AObj},KW H M D → D G.length = some (.var [pt p]) → (ob (peek B M (.ptr (some (.new G.length,0)))) fun c34 => pLive c34 fun v35 => (v35 : AV) = pt p) := fun kk hh => by
  rw [pk kk hh,ob_some]
  exact live_pt' rfl
 refine ⟨rfl,eq2 k2 cw2,eq2 k2 cw2,rfl,eq2 k2 cw2,?_⟩
 refine f101_rd (most := 64) (p := p) (E := BsM) (Inv := fun C => C G.length = some (.var [pt p])) (fun M M' x a hM hx => hM _ _ _ hx) (fun C k x a h => slF_isL h) (fun C C' e hi => e G.length _ (by omega) hi) (fun st => (textP_le st).2) (leaf_one (w1 := G.length) (p := p) (by omega)) (by decide) k2 r2 (by omega) cw2 fun lv G3 C3 k3 e3 r3 l3 hlv => ?_
 have hlvL : lv = .nils ∨ ∃ o off len es cap,lv = .slice o off len es cap := by obtain ⟨us,h1,_⟩ := hlv; exact slF_isL h1
 refine live_isL hlvL ?_
 have s3 := (listP_le (fun st => (textP_le st).2) 64 (numP 1099511627776 st).2).1
 have cw3 := e3 _ _ (by omega) cw2
 refine ⟨rfl,eq2 k3 cw3,eq2 k3 cw3,?_⟩
 refine path_rd k3 r3 (by omega) fun pv G5 C5 k5 e5 r5 l5 hpv => live_isL (slF_isL hpv) ?_
 have c15 : C5 (G.length + 1) = some (.var [.int .i64 0,.nils,.nils]) := e5 _ _ (by omega) (e3 _ _ (by omega) (e2 _ _ (by omega) c1))
 rw [show layParts [(.int .i64 0),.nils,.nils] [(0,1,.int .i64 ((numP 1099511627776 st).1 : Int)),(1,1,lv),(2,1,pv)] = some [.int .i64 ((numP 1099511627776 st).1 : Int),lv,pv] from by
  obtain rfl | ⟨_,_,_,_,_,rfl⟩ := hlvL <;> obtain rfl | ⟨_,_,_,_,rfl⟩ := hpv.isL <;> rfl,ob_some]
 refine ret_place k5 c15 rfl rfl (hq _ _ _ (k5.set c15 (by omega) _) (fun q o hqp hcq => ?_) (r5.mono fun o ho => by rw [updC_ne (by omega)]; exact ho) (by rw [List.length_set]; omega) ⟨lv,pv,rfl,?_,?_⟩)
 ·have h2 := h.lt hcq
  rw [updC_ne (by omega)]
  exact e5 _ _ hqp (e3 _ _ hqp (e2 _ _ hqp (e1 q o hcq)))
 ·obtain ⟨z3,hz3⟩ := r3.var
  have hM : ∀ es v rows,SlF C3 G2.length es v rows → SlF (updC C5 (G.length + 1) (.var [.int .i64 ((numP 1099511627776 st).1 : Int),lv,pv])) G.length es v rows := fun es v rows hx => SlF.upd c15 _ _ _ (SlF.low (by omega) _ _ _ (SlF.keep hz3 e5 _ _ _ hx))
  exact hlv.mono hM fun _ _ hx => hx.mono hM
 ·exact SlF.upd c15 _ _ _ (SlF.low (by omega) _ _ _ hpv)
theorem sn_one : OneK B H p (.func (.func 89) [pt p] []) (fun c : List AV => AV.agg c) SnM spP (fun _ => True) := fun G C st Q k r hs _ hq => calleeK_val (f89_ok k r hs fun c G' C' k' e' r' l' hx => hq G' C' c k' e' r' l' hx)
theorem SnM.three {M : MM} {c : List AV} {o : Spn} (h : SnM M c o) : c.length = 3 := by obtain ⟨_,_,rfl,_⟩ := h; rfl
theorem ent_one : OneK B H p (.func (.func 49) [pt p] []) (fun c : List AV => AV.agg c) (fun _ x (e : Ent) => x = e.row) entP (fun _ => True) := fun G C st Q k r hs _ hq => calleeK_val (f49_ok k r hs fun G' C' k' e' r' l' => hq G' C' _ k' e' r' l' rfl)
theorem le_ents {M : MM} {v : AV} {l : List Ent} (h : LE 4 (fun _ x (e : Ent) => x = e.row) M v l) : EsM M v l := by
 obtain ⟨cs,h1,h2,h3⟩ := h
 have : cs = l.map Ent.row := by
  apply List.ext_getElem?
  intro i
  rcases Nat.lt_or_ge i cs.length with hi | hi
  ·rw [List.getElem?_map,List.getElem?_eq_getElem hi,List.getElem?_eq_getElem (by omega)]
   have := h3 i _ _ (List.getElem?_eq_getElem hi) (List.getElem?_eq_getElem (by omega))
   rw [this]; rfl
  ·rw [List.getElem?_eq_none hi,List.getElem?_eq_none (by rw [List.length_map]; omega)]
 subst this
 exact h1
theorem ents_rd {most : Nat} (hm : most ≤ 1000) (h : KW H G C) (hr : RdR B H C p st) (hs : st.1.length ≤ 1000000) (hq : ∀ v G' C',KW H G' C' → Keeps1 C C' p → RdR B H C' p (listP entP most st).2 → G.length ≤ G'.length → EsM (SlF C' G.length) v (listP entP most st).1 → Q v G') :
  Cl B 48 [pt p,.int .i64 (most : Int),.func (.func 49) [pt p] []] G Q :=
 f48_rd (most := most) (Inv := fun _ => True) (fun M M' x a _ h => h) (fun C k x a h => by rw [h]; rfl) (fun _ _ _ _ => trivial) entP_le ent_one hm h hr hs trivial fun v G' C' k' e' r' l' hv => hq v G' C' k' e' r' l' (le_ents hv)
theorem row_one : OneK B H p (.func (.func 91) [pt p] []) (fun u : AV => u) EsM rowP (fun _ => True) := fun G C st Q k r hs _ hq => by
 refine calleeK_val ?_
 show Cl B 91 [pt p] G Q
 refine f91_in fun n cl hn hcl hH hA => ?_
 subst hcl
 exact ents_rd (most := 64) (by omega) k r hs fun v G' C' k' e' r' l' hv => live_isL (slF_isL hv) (tidy_none (hq G' C' v k' e' r' l' hv))
end
end Go.Am
namespace Go.Am
open Go
def RpM (M : MM) (c : List AV) (r : Rpl) : Prop := ∃ v3 v4 v5 v6 v7 v8,c = [.int .i64 r.err,.int .i64 r.last,.int .i64 r.epoch,v3,v4,v5,v6,v7,v8] ∧
 BsM M v3 r.psum ∧ LE 7 PtM M v4 r.pts ∧ BsM M v5 r.ssum ∧ LE 3 SnM M v6 r.sns ∧ BsM M v7 r.sum ∧ LV EsM M v8 r.rows
theorem RpM.mono {M M' : MM} (h : ∀ es v rows,M es v rows → M' es v rows) {c : List AV} {r : Rpl} (a : RpM M c r) : RpM M' c r := by
 obtain ⟨v3,v4,v5,v6,v7,v8,e,r3,r4,r5,r6,r7,r8⟩ := a
 exact ⟨v3,v4,v5,v6,v7,v8,e,h _ _ _ r3,r4.mono h fun _ _ x => x.mono h,h _ _ _ r5,r6.mono h fun _ _ x => x.mono h,h _ _ _ r7,r8.mono h fun _ _ x => h _ _ _ x⟩
theorem RpM.r {B : Base} {G : Heap} {c : List AV} {r : Rpl} (a : RpM (Sl B G) c r) : RpR B G c r := a
def rq2 (t : List UInt8) (l : List Pnt) : Rpl := ⟨0,0,0,t,l,[],[],[],[]⟩
def rq3 (t : List UInt8) (l : List Spn) : Rpl := ⟨0,0,0,[],[],t,l,[],[]⟩
def rq5 (e : Int) (t : List UInt8) (l : List (List Ent)) : Rpl := ⟨0,0,e,[],[],[],[],t,l⟩
def bodyP (k : Int) (st : RS) : Rpl × RS :=
 if k = 1 then (rp3 0 (numP 1099511627776 st).1 0,(numP 1099511627776 st).2)
 else if k = 2 then (rq2 (textP st).1 (listP ptP 512 (textP st).2).1,(listP ptP 512 (textP st).2).2)
 else if k = 3 then (rq3 (textP st).1 (listP spP 512 (textP st).2).1,(listP spP 512 (textP st).2).2)
 else if k = 4 then (rq5 (numP 1099511627776 st).1 (textP (numP 1099511627776 st).2).1 [],(textP (numP 1099511627776 st).2).2)
 else if k = 5 then (rq5 (numP 1099511627776 st).1 (textP (numP 1099511627776 st).2).1 (listP rowP 512 (textP (numP 1099511627776 st).2).2).1,(listP rowP 512 (textP (numP 1099511627776 st).2).2).2)
 else if k = 6 then (rp3 0 (numP 1099511627776 st).1 (numP 1099511627776 (numP 1099511627776 st).2).1,(numP 1099511627776 (numP 1099511627776 st).2).2)
 else (rp3 0 0 0,st)
def sayOfP (k : Int) (s : List UInt8) : Rpl × RS := if (numP 10 (s,false)).1 = 0 then bodyP k (numP 10 (s,false)).2 else (rp3 (numP 10 (s,false)).1 0 0,(numP 10 (s,false)).2)
def sayGood (k : Int) (s : List UInt8) : Bool := !(sayOfP k s).2.2 && (!(sayW k (sayOfP k s).1) && sayF k (sayOfP k s).1 == s)
theorem listGo_all {α : Type} {one : RS → α × RS} {P : α → Prop} {N : Nat} (h : ∀ st : RS,st.1.length ≤ N → P (one st).1) (hle : ∀ st,(one st).2.1.length ≤ st.1.length) : ∀ k acc (st : RS),st.1.length ≤ N → (∀ x,x ∈ acc → P x) → ∀ x,x ∈ (listGo one k acc st).1 → P x
 | 0,acc,st,_,ha => ha
 | k + 1,acc,st,hs,ha => by
  simp only [listGo]
  split
  ·simp
  ·refine listGo_all h hle k _ _ (Nat.le_trans (hle st) hs) fun x hx => ?_
   rcases List.mem_append.1 hx with hx | hx
   ·exact ha x hx
   ·rw [List.mem_singleton.1 hx]; exact h st hs
theorem listP_all {α : Type} {one : RS → α × RS} {P : α → Prop} {N most : Nat} (h : ∀ st : RS,st.1.length ≤ N → P (one st).1) (hle : ∀ st,(one st).2.1.length ≤ st.1.length) {st : RS} (hs : st.1.length ≤ N) : ∀ x,x ∈ (listP one most st).1 → P x :=
 listGo_all h hle _ _ _ (Nat.le_trans (numP_le most st).2 hs) fun x hx => by cases hx
theorem num_i (st : RS) : (((numP 1099511627776 st).1 : Nat) : Int) ≤ 9223372036854775807 := by
 have := (numP_le 1099511627776 st).1
 omega
theorem pathP_ok (st : RS) : (pathP st).1.length ≤ 100 ∧ ∀ d,d ∈ (pathP st).1 → d.length = 32 := by
 have h2 : ∀ d,d ∈ (listP digP 64 st).1 → d.length = 32 := listP_all (N := st.1.length) (P := fun d => d.length = 32) (fun st _ => digP_len st) digP_le (Nat.le_refl _)
 refine ⟨?_,h2⟩
 have := (listP_le digP_le 64 st).2
 unfold pathP; omega
theorem opP_ok {st : RS} (h : st.1.length ≤ 1000000) : OnOk (opP st).1 := by
 have h1 := (numP_le 1099511627776 st).2
 have h2 := (textP_le (numP 1099511627776 st).2).1
 exact ⟨num_i st,by show (textP (numP 1099511627776 st).2).1.length ≤ 1000000; omega,(pathP_ok _).1,(pathP_ok _).2⟩
theorem on_zero : OnOk ⟨0,[],[]⟩ := ⟨by decide,by decide,by decide,fun d hd => by cases hd⟩
theorem ptP_ok {st : RS} (h : st.1.length ≤ 1000000) : PtOk (ptP st).1 := by
 have h1 := (numP_le 1 st).2
 have h2 := opP_le (numP 1 st).2
 unfold ptP
 split
 ·exact ⟨opP_ok (by omega),opP_ok (by omega)⟩
 ·exact ⟨opP_ok (by omega),on_zero⟩
theorem spP_ok {st : RS} (h : st.1.length ≤ 1000000) : SnOk (spP st).1 := by
 have h1 := (numP_le 1099511627776 st).2
 have h2 := (listP_le (fun st => (textP_le st).2) 64 (numP 1099511627776 st).2)
 refine ⟨num_i st,by show (listP textP 64 (numP 1099511627776 st).2).1.length ≤ 100; omega,?_,(pathP_ok _).1,(pathP_ok _).2⟩
 have h3 : ∀ t,t ∈ (listP textP 64 (numP 1099511627776 st).2).1 → t.length ≤ 1000000 := listP_all (N := 1000000) (P := fun t => t.length ≤ 1000000) (fun st hs => Nat.le_trans (textP_le st).1 hs) (fun st => (textP_le st).2) (by omega)
 exact h3
theorem rowP_ok (st : RS) : (rowP st).1.length ≤ 100 := by
 have := (listP_le entP_le 64 st).2
 unfold rowP; omega
theorem rp3_ok' {e l p : Int} (he : e ≤ 9223372036854775807) (hl : l ≤ 9223372036854775807) (hp : p ≤ 9223372036854775807) : RpOk (rp3 e l p) := rp3_ok he hl hp
theorem bodyP_ok {k : Int} {st : RS} (h : st.1.length ≤ 1000000) : RpOk (bodyP k st).1 := by
 have h1 := (numP_le 1099511627776 st).2
 have h2 := textP_le st
 have h3 := textP_le (numP 1099511627776 st).2
 have z : (0 : Int) ≤ 9223372036854775807 := by decide
 unfold bodyP
 split
 ·exact rp3_ok' z (num_i _) z
 split
 ·have := (listP_le ptP_le 512 (textP st).2).2
  exact ⟨z,z,z,by show (textP st).1.length ≤ 1000000; omega,⟨by show (listP ptP 512 (textP st).2).1.length ≤ 600; omega,listP_all (N := 1000000) (fun st hs => ptP_ok hs) ptP_le (by omega)⟩,Nat.zero_le _,⟨Nat.zero_le _,fun _ hp => by cases hp⟩,Nat.zero_le _,⟨Nat.zero_le _,fun _ hp => by cases hp⟩⟩
 split
 ·have := (listP_le spP_le 512 (textP st).2).2
  exact ⟨z,z,z,Nat.zero_le _,⟨Nat.zero_le _,fun _ hp => by cases hp⟩,by show (textP st).1.length ≤ 1000000; omega,⟨by show (listP spP 512 (textP st).2).1.length ≤ 600; omega,listP_all (N := 1000000) (fun st hs => spP_ok hs) spP_le (by omega)⟩,Nat.zero_le _,⟨Nat.zero_le _,fun _ hp => by cases hp⟩⟩
 split
 ·exact ⟨z,z,num_i _,Nat.zero_le _,⟨Nat.zero_le _,fun _ hp => by cases hp⟩,Nat.zero_le _,⟨Nat.zero_le _,fun _ hp => by cases hp⟩,by show (textP (numP 1099511627776 st).2).1.length ≤ 1000000; omega,⟨Nat.zero_le _,fun _ hp => by cases hp⟩⟩
 split
 ·have := (listP_le rowP_le 512 (textP (numP 1099511627776 st).2).2).2
  exact ⟨z,z,num_i _,Nat.zero_le _,⟨Nat.zero_le _,fun _ hp => by cases hp⟩,Nat.zero_le _,⟨Nat.zero_le _,fun _ hp => by cases hp⟩,by show (textP (numP 1099511627776 st).2).1.length ≤ 1000000; omega,
   ⟨by show (listP rowP 512 (textP (numP 1099511627776 st).2).2).1.length ≤ 600; omega,listP_all (N := 1000000) (fun st _ => rowP_ok st) rowP_le (by omega)⟩⟩
 split
 ·exact rp3_ok' z (num_i _) (num_i _)
 ·exact rp3_ok' z z z
theorem sayOfP_ok {k : Int} {s : List UInt8} (h : s.length ≤ 1000000) : RpOk (sayOfP k s).1 := by
 have h1 := numP_le 10 (s,false)
 unfold sayOfP
 split
 ·exact bodyP_ok (Nat.le_trans h1.2 h)
 ·exact rp3_ok' (by omega) (by decide) (by decide)
section
variable {B : Base} {n : Nat} {H G : Heap} {C : Nat → Option AObj} {Q : AV → Heap → Prop} {p : Nat} {st : RS}
theorem rp3_m {e l q : Int} {M : MM} (hM : ∀ es,M es .nils []) : RpM M (row3 e l q) (rp3 e l q) := ⟨.nils,.nils,.nils,.nils,.nils,.nils,rfl,hM 1,⟨[],hM 7,F2.nil⟩,hM 1,⟨[],hM 3,F2.nil⟩,hM 1,⟨[],hM 1,F2.nil⟩⟩
def BdK (B : Base) (H G : Heap) (C : Nat → Option AObj) (p x2 : Nat) (r : Rpl × RS) (Q : AV → Heap → Prop) : Prop :=
 ∀ c G' C',KW H G' C' → (∀ q o,q ≠ p → q ≠ x2 → C q = some o → C' q = some o) → C' x2 = some (.var c) → RdR B H C' p r.2 → G.length ≤ G'.length → RpM (SlF C' 0) c r.1 → Q (.tuple []) G'
theorem bd_end {x2 off m : Nat} {G0 : Heap} {C0 : Nat → Option AObj} {v : AV} {vs row c : List AV} {r : Rpl × RS} (hk : KW H G C) (e : ∀ q o,q ≠ p → q ≠ x2 → C0 q = some o → C q = some o) (hc : C x2 = some (.var row)) (hx : H.length ≤ x2) (hxp : p ≠ x2) (hr : RdR B H C p r.2) (hl : G0.length ≤ G.length)
  (hv : v.cells? = some vs) (hm : vs.length = m) (ho : off + m ≤ row.length) (hput : putAt row (0 + off) vs = c) (hM : RpM (SlF C 0) c r.1) (hq : BdK B H G0 C0 p x2 r Q) :
  aop B E0 G (fun v6 _ => aop B E0 G (fun v7 _ => aop B E0 G (fun _ H9 => tidyK n Q (.tuple []) H9) (.st m (.const v7) (.const v))) (.fieldPtr off (.const v6))) (.nilCheck (.const (pt x2))) := by
 refine op_nil (op_fldP (op_st hv hm (hk.cs _ _ hc) (by omega) (tidy_none ?_)))
 rw [hput]
 refine hq c _ _ (hk.set hc hx _) (fun q o h1 h2 h3 => by rw [updC_ne h2]; exact e q o h1 h2 h3) updC_at (hr.mono fun o ho => by rw [updC_ne hxp]; exact ho) (by rw [List.length_set]; exact hl) (hM.mono (SlF.upd hc))
theorem bd_st {x2 off m : Nat} {v : AV} {vs row c : List AV} {K : Heap → Prop} (hk : KW H G C) (hc : C x2 = some (.var row)) (hx : H.length ≤ x2)
  (hv : v.cells? = some vs) (hm : vs.length = m) (ho : off + m ≤ row.length) (hput : putAt row (0 + off) vs = c) (hq : KW H (G.set x2 (.var c)) (updC C x2 (.var c)) → K (G.set x2 (.var c))) :
  aop B E0 G (fun v6 _ => aop B E0 G (fun v7 _ => aop B E0 G (fun _ H9 => K H9) (.st m (.const v7) (.const v))) (.fieldPtr off (.const v6))) (.nilCheck (.const (pt x2))) := by
 refine op_nil (op_fldP (op_st hv hm (hk.cs _ _ hc) (by omega) ?_))
 rw [hput]
 exact hq (hk.set hc hx _)
theorem f56_ok {k : Int} {x2 : Nat} (h : KW H G C) (hr : RdR B H C p st) (hs : st.1.length ≤ 1000000) (hc : C x2 = some (.var (row3 0 0 0))) (hx : H.length ≤ x2) (hxp : p ≠ x2) (hq : BdK B H G C p x2 (bodyP k st) Q) : Cl B 56 [pt p,.int .i64 k,pt x2] G Q := by
 refine f56_in fun n cl hn hcl hH hA => J56_9_in (ib_eq (J56_8_in ?_))
 subst hcl
 obtain ⟨z0,hz0⟩ := hr.var
 have s1 := (numP_le 1099511627776 st).2
 have s2 := (textP_le st).2
 have s3 := (textP_le (numP 1099511627776 st).2).2
 rw [pBool_bool]
 split
 ·rename_i k1
  have k1 := of_decide_eq_true k1
  have hb : bodyP k st = (rp3 0 (numP 1099511627776 st).1 0,(numP 1099511627776 st).2) := by unfold bodyP; rw [if_pos k1]
  rw [hb] at hq
  refine f51_ok (most := 1099511627776) h hr (by decide) fun G1 C1 a1 e1 r1 l1 => int_i ?_
  exact bd_end (off := 1) (m := 1) a1 (fun q o h1 _ h3 => e1 q o h1 h3) (e1 _ _ (Ne.symm hxp) hc) hx hxp r1 l1 rfl rfl (by simp [row3]) rfl (rp3_m slF_nil) hq
 rename_i k1
 have k1 : ¬ k = 1 := fun e => k1 (decide_eq_true e)
 refine ib_eq (J56_7_in ?_)
 rw [pBool_bool]
 split
 ·rename_i k2
  have k2 := of_decide_eq_true k2
  have hb : bodyP k st = (rq2 (textP st).1 (listP ptP 512 (textP st).2).1,(listP ptP 512 (textP st).2).2) := by unfold bodyP; rw [if_neg k1,if_pos k2]
  rw [hb] at hq
  refine f50_ok h hr hs fun G1 C1 a1 e1 r1 l1 => str_u (op_toBy a1 fun G2 a2 l2 b2 => ?_)
  have r2 := r1.mono (C' := updC C1 G1.length (.arr ((textP st).1.map brw).flatten)) fun o ho => keeps_add a1 p o ho
  have e2 : Keeps1 C1 (updC C1 G1.length (.arr ((textP st).1.map brw).flatten)) p := fun q o _ hq => keeps_add a1 q o hq
  generalize updC C1 G1.length (.arr ((textP st).1.map brw).flatten) = C2 at a2 b2 r2 e2
  generalize AV.slice (.new G1.length) 0 (textP st).1.length 1 none = lv at b2 ⊢
  refine f86_rd (most := 512) (E := PtM) (Inv := fun _ => True) (fun M M' x a hM hx => hx.mono hM) (fun C k x a h => h.seven) (fun _ _ _ _ => trivial) ptP_le pt_one (by omega) a2 r2 (by omega) trivial fun pv G3 C3 a3 e3 r3 l3 hpv => ?_
  have hpvL : pv = .nils ∨ ∃ o off len es cap,pv = .slice o off len es cap := by obtain ⟨us,h1,_⟩ := hpv; exact slF_isL h1
  refine live_isL hpvL ?_
  rw [show layParts [.nils,.nils] [(0,1,lv),(1,1,pv)] = some [lv,pv] from by
   obtain rfl | ⟨_,_,_,_,rfl⟩ := b2.isL <;> obtain rfl | ⟨_,_,_,_,_,rfl⟩ := hpvL <;> rfl,ob_some]
  have c3 := e3 _ _ (Ne.symm hxp) (e2 _ _ (Ne.symm hxp) (e1 _ _ (Ne.symm hxp) hc))
  obtain ⟨z2,hz2⟩ := r2.var
  refine bd_end (off := 3) (m := 2) a3 (fun q o h1 _ h3 => e3 q o h1 (e2 q o h1 (e1 q o h1 h3))) c3 hx hxp r3 (by omega) rfl rfl (by simp [row3]) rfl ?_ hq
  exact ⟨lv,pv,.nils,.nils,.nils,.nils,rfl,SlF.low (Nat.zero_le _) _ _ _ (SlF.keep hz2 e3 _ _ _ b2),hpv.mono (SlF.low (Nat.zero_le _)) fun _ _ x => x.mono (SlF.low (Nat.zero_le _)),slF_nil 1,⟨[],slF_nil 3,F2.nil⟩,slF_nil 1,⟨[],slF_nil 1,F2.nil⟩⟩
 rename_i k2
 have k2 : ¬ k = 2 := fun e => k2 (decide_eq_true e)
 refine ib_eq (J56_6_in ?_)
 rw [pBool_bool]
 split
 ·rename_i k3
  have k3 := of_decide_eq_true k3
  have hb : bodyP k st = (rq3 (textP st).1 (listP spP 512 (textP st).2).1,(listP spP 512 (textP st).2).2) := by unfold bodyP; rw [if_neg k1,if_neg k2,if_pos k3]
  rw [hb] at hq
  refine f50_ok h hr hs fun G1 C1 a1 e1 r1 l1 => str_u (op_toBy a1 fun G2 a2 l2 b2 => ?_)
  have r2 := r1.mono (C' := updC C1 G1.length (.arr ((textP st).1.map brw).flatten)) fun o ho => keeps_add a1 p o ho
  have e2 : Keeps1 C1 (updC C1 G1.length (.arr ((textP st).1.map brw).flatten)) p := fun q o _ hq => keeps_add a1 q o hq
  generalize updC C1 G1.length (.arr ((textP st).1.map brw).flatten) = C2 at a2 b2 r2 e2
  generalize AV.slice (.new G1.length) 0 (textP st).1.length 1 none = lv at b2 ⊢
  refine f88_rd (most := 512) (E := SnM) (Inv := fun _ => True) (fun M M' x a hM hx => hx.mono hM) (fun C k x a h => h.three) (fun _ _ _ _ => trivial) spP_le sn_one (by omega) a2 r2 (by omega) trivial fun pv G3 C3 a3 e3 r3 l3 hpv => ?_
  have hpvL : pv = .nils ∨ ∃ o off len es cap,pv = .slice o off len es cap := by obtain ⟨us,h1,_⟩ := hpv; exact slF_isL h1
  refine live_isL hpvL ?_
  rw [show layParts [.nils,.nils] [(0,1,lv),(1,1,pv)] = some [lv,pv] from by
   obtain rfl | ⟨_,_,_,_,rfl⟩ := b2.isL <;> obtain rfl | ⟨_,_,_,_,_,rfl⟩ := hpvL <;> rfl,ob_some]
  have c3 := e3 _ _ (Ne.symm hxp) (e2 _ _ (Ne.symm hxp) (e1 _ _ (Ne.symm hxp) hc))
  obtain ⟨z2,hz2⟩ := r2.var
  refine bd_end (off := 5) (m := 2) a3 (fun q o h1 _ h3 => e3 q o h1 (e2 q o h1 (e1 q o h1 h3))) c3 hx hxp r3 (by omega) rfl rfl (by simp [row3]) rfl ?_ hq
  exact ⟨.nils,.nils,lv,pv,.nils,.nils,rfl,slF_nil 1,⟨[],slF_nil 7,F2.nil⟩,SlF.low (Nat.zero_le _) _ _ _ (SlF.keep hz2 e3 _ _ _ b2),hpv.mono (SlF.low (Nat.zero_le _)) fun _ _ x => x.mono (SlF.low (Nat.zero_le _)),slF_nil 1,⟨[],slF_nil 1,F2.nil⟩⟩
 rename_i k3
 have k3 : ¬ k = 3 := fun e => k3 (decide_eq_true e)
 refine ib_eq (J56_5_in ?_)
 rw [pBool_bool]
 split
 ·rename_i k4
  have k4 := of_decide_eq_true k4
  have hb : bodyP k st = (rq5 (numP 1099511627776 st).1 (textP (numP 1099511627776 st).2).1 [],(textP (numP 1099511627776 st).2).2) := by unfold bodyP; rw [if_neg k1,if_neg k2,if_neg k3,if_pos k4]
  rw [hb] at hq
  refine f51_ok (most := 1099511627776) h hr (by decide) fun G1 C1 a1 e1 r1 l1 => int_i ?_
  have c1 := e1 _ _ (Ne.symm hxp) hc
  refine bd_st (off := 2) (m := 1) (c := row3 0 0 ((numP 1099511627776 st).1 : Int)) a1 c1 hx rfl rfl (by simp [row3]) rfl fun a2 => J56_0_in ?_
  have r2 := r1.mono (C' := updC C1 x2 (.var (row3 0 0 ((numP 1099511627776 st).1 : Int)))) fun o ho => by rw [updC_ne hxp]; exact ho
  have c2 : updC C1 x2 (.var (row3 0 0 ((numP 1099511627776 st).1 : Int))) x2 = some (.var (row3 0 0 ((numP 1099511627776 st).1 : Int))) := updC_at
  have e2 : ∀ q o,q ≠ p → q ≠ x2 → C q = some o → updC C1 x2 (.var (row3 0 0 ((numP 1099511627776 st).1 : Int))) q = some o := fun q o h1 h2 h3 => by rw [updC_ne h2]; exact e1 q o h1 h3
  have l2 : G.length ≤ (G1.set x2 (.var (row3 0 0 ((numP 1099511627776 st).1 : Int)))).length := by rw [List.length_set]; exact l1
  generalize updC C1 x2 (.var (row3 0 0 ((numP 1099511627776 st).1 : Int))) = C2 at a2 r2 c2 e2
  generalize G1.set x2 (.var (row3 0 0 ((numP 1099511627776 st).1 : Int))) = G2 at a2 l2 ⊢
  refine f50_ok a2 r2 (by omega) fun G3 C3 a3 e3 r3 l3 => str_u (op_toBy a3 fun G4 a4 l4 b4 => ?_)
  refine bd_end (off := 7) (m := 1) a4 (fun q o h1 h2 h3 => keeps_add a3 q o (e3 q o h1 (e2 q o h1 h2 h3))) (keeps_add a3 _ _ (e3 _ _ (Ne.symm hxp) c2)) hx hxp (r3.mono fun o ho => keeps_add a3 p o ho) (by omega) rfl rfl (by simp [row3]) rfl ?_ hq
  exact ⟨.nils,.nils,.nils,.nils,_,.nils,rfl,slF_nil 1,⟨[],slF_nil 7,F2.nil⟩,slF_nil 1,⟨[],slF_nil 3,F2.nil⟩,SlF.low (Nat.zero_le _) _ _ _ b4,⟨[],slF_nil 1,F2.nil⟩⟩
 rename_i k4
 have k4 : ¬ k = 4 := fun e => k4 (decide_eq_true e)
 refine ib_eq (J56_4_in ?_)
 rw [pBool_bool]
 split
 ·rename_i k5
  have k5 := of_decide_eq_true k5
  have hb : bodyP k st = (rq5 (numP 1099511627776 st).1 (textP (numP 1099511627776 st).2).1 (listP rowP 512 (textP (numP 1099511627776 st).2).2).1,(listP rowP 512 (textP (numP 1099511627776 st).2).2).2) := by unfold bodyP; rw [if_neg k1,if_neg k2,if_neg k3,if_neg k4,if_pos k5]
  rw [hb] at hq
  refine f51_ok (most := 1099511627776) h hr (by decide) fun G1 C1 a1 e1 r1 l1 => int_i ?_
  have c1 := e1 _ _ (Ne.symm hxp) hc
  refine bd_st (off := 2) (m := 1) (c := row3 0 0 ((numP 1099511627776 st).1 : Int)) a1 c1 hx rfl rfl (by simp [row3]) rfl fun a2 => J56_2_in ?_
  have r2 := r1.mono (C' := updC C1 x2 (.var (row3 0 0 ((numP 1099511627776 st).1 : Int)))) fun o ho => by rw [updC_ne hxp]; exact ho
  have c2 : updC C1 x2 (.var (row3 0 0 ((numP 1099511627776 st).1 : Int))) x2 = some (.var (row3 0 0 ((numP 1099511627776 st).1 : Int))) := updC_at
  have e2 : ∀ q o,q ≠ p → q ≠ x2 → C q = some o → updC C1 x2 (.var (row3 0 0 ((numP 1099511627776 st).1 : Int))) q = some o := fun q o h1 h2 h3 => by rw [updC_ne h2]; exact e1 q o h1 h3
  have l2 : G.length ≤ (G1.set x2 (.var (row3 0 0 ((numP 1099511627776 st).1 : Int)))).length := by rw [List.length_set]; exact l1
  generalize updC C1 x2 (.var (row3 0 0 ((numP 1099511627776 st).1 : Int))) = C2 at a2 r2 c2 e2
  generalize G1.set x2 (.var (row3 0 0 ((numP 1099511627776 st).1 : Int))) = G2 at a2 l2 ⊢
  refine f50_ok a2 r2 (by omega) fun G3 C3 a3 e3 r3 l3 => str_u (op_toBy a3 fun G4 a4 l4 b4 => ?_)
  have r4 := r3.mono (C' := updC C3 G3.length (.arr ((textP (numP 1099511627776 st).2).1.map brw).flatten)) fun o ho => keeps_add a3 p o ho
  have e4 : ∀ q o,q ≠ p → q ≠ x2 → C q = some o → updC C3 G3.length (.arr ((textP (numP 1099511627776 st).2).1.map brw).flatten) q = some o := fun q o h1 h2 h3 => keeps_add a3 q o (e3 q o h1 (e2 q o h1 h2 h3))
  have c4 := keeps_add (o := .arr ((textP (numP 1099511627776 st).2).1.map brw).flatten) a3 _ _ (e3 _ _ (Ne.symm hxp) c2)
  generalize updC C3 G3.length (.arr ((textP (numP 1099511627776 st).2).1.map brw).flatten) = C4 at a4 b4 r4 e4 c4
  generalize AV.slice (.new G3.length) 0 (textP (numP 1099511627776 st).2).1.length 1 none = lv at b4 ⊢
  have hlc : lv.cells? = some [lv] := cells_isL (slF_isL b4)
  have hput : putAt (row3 0 0 ((numP 1099511627776 st).1 : Int)) (0 + 7) [lv] = [.int .i64 0,.int .i64 0,.int .i64 ((numP 1099511627776 st).1 : Int),.nils,.nils,.nils,.nils,lv,.nils] := rfl
  refine bd_st (off := 7) (m := 1) a4 c4 hx hlc rfl (by simp [row3]) hput fun a5 => J56_1_in ?_
  have r5 := r4.mono (C' := updC C4 x2 (.var [.int .i64 0,.int .i64 0,.int .i64 ((numP 1099511627776 st).1 : Int),.nils,.nils,.nils,.nils,lv,.nils])) fun o ho => by rw [updC_ne hxp]; exact ho
  have c5 : updC C4 x2 (.var [.int .i64 0,.int .i64 0,.int .i64 ((numP 1099511627776 st).1 : Int),.nils,.nils,.nils,.nils,lv,.nils]) x2 = some (.var [.int .i64 0,.int .i64 0,.int .i64 ((numP 1099511627776 st).1 : Int),.nils,.nils,.nils,.nils,lv,.nils]) := updC_at
  have e5 : ∀ q o,q ≠ p → q ≠ x2 → C q = some o → updC C4 x2 (.var [.int .i64 0,.int .i64 0,.int .i64 ((numP 1099511627776 st).1 : Int),.nils,.nils,.nils,.nils,lv,.nils]) q = some o := fun q o h1 h2 h3 => by rw [updC_ne h2]; exact e4 q o h1 h2 h3
  have b5 := SlF.upd (k0 := G3.length) (o := .var [.int .i64 0,.int .i64 0,.int .i64 ((numP 1099511627776 st).1 : Int),.nils,.nils,.nils,.nils,lv,.nils]) c4 _ _ _ b4
  have l5 : G.length ≤ (G4.set x2 (.var [.int .i64 0,.int .i64 0,.int .i64 ((numP 1099511627776 st).1 : Int),.nils,.nils,.nils,.nils,lv,.nils])).length := by rw [List.length_set]; omega
  generalize updC C4 x2 (.var [.int .i64 0,.int .i64 0,.int .i64 ((numP 1099511627776 st).1 : Int),.nils,.nils,.nils,.nils,lv,.nils]) = C5 at a5 r5 c5 e5 b5
  generalize G4.set x2 (.var [.int .i64 0,.int .i64 0,.int .i64 ((numP 1099511627776 st).1 : Int),.nils,.nils,.nils,.nils,lv,.nils]) = G5 at a5 l5 ⊢
  refine f90_rd (most := 512) (E := EsM) (Inv := fun _ => True) (fun M M' x a hM hx => hM _ _ _ hx) (fun C k x a h => slF_isL h) (fun _ _ _ _ => trivial) rowP_le row_one (by omega) a5 r5 (by omega) trivial fun pv G6 C6 a6 e6 r6 l6 hpv => ?_
  have hpvL : pv = .nils ∨ ∃ o off len es cap,pv = .slice o off len es cap := by obtain ⟨us,h1,_⟩ := hpv; exact slF_isL h1
  refine live_isL hpvL ?_
  obtain ⟨z5,hz5⟩ := r5.var
  refine bd_end (off := 8) (m := 1) a6 (fun q o h1 h2 h3 => e6 q o h1 (e5 q o h1 h2 h3)) (e6 _ _ (Ne.symm hxp) c5) hx hxp r6 (by omega) (cells_isL hpvL) rfl (by simp) rfl ?_ hq
  exact ⟨.nils,.nils,.nils,.nils,lv,pv,rfl,slF_nil 1,⟨[],slF_nil 7,F2.nil⟩,slF_nil 1,⟨[],slF_nil 3,F2.nil⟩,SlF.low (Nat.zero_le _) _ _ _ (SlF.keep hz5 e6 _ _ _ b5),hpv.mono (SlF.low (Nat.zero_le _)) fun _ _ x => SlF.low (Nat.zero_le _) _ _ _ x⟩
 rename_i k5
 have k5 : ¬ k = 5 := fun e => k5 (decide_eq_true e)
 refine ib_eq (J56_3_in ?_)
 rw [pBool_bool]
 split
 ·rename_i k6
  have k6 := of_decide_eq_true k6
  have hb : bodyP k st = (rp3 0 (numP 1099511627776 st).1 (numP 1099511627776 (numP 1099511627776 st).2).1,(numP 1099511627776 (numP 1099511627776 st).2).2) := by unfold bodyP; rw [if_neg k1,if_neg k2,if_neg k3,if_neg k4,if_neg k5,if_pos k6]
  rw [hb] at hq
  refine f51_ok (most := 1099511627776) h hr (by decide) fun G1 C1 a1 e1 r1 l1 => int_i ?_
  have c1 := e1 _ _ (Ne.symm hxp) hc
  refine bd_st (off := 1) (m := 1) (c := row3 0 ((numP 1099511627776 st).1 : Int) 0) a1 c1 hx rfl rfl (by simp [row3]) rfl fun a2 => ?_
  have r2 := r1.mono (C' := updC C1 x2 (.var (row3 0 ((numP 1099511627776 st).1 : Int) 0))) fun o ho => by rw [updC_ne hxp]; exact ho
  have c2 : updC C1 x2 (.var (row3 0 ((numP 1099511627776 st).1 : Int) 0)) x2 = some (.var (row3 0 ((numP 1099511627776 st).1 : Int) 0)) := updC_at
  have e2 : ∀ q o,q ≠ p → q ≠ x2 → C q = some o → updC C1 x2 (.var (row3 0 ((numP 1099511627776 st).1 : Int) 0)) q = some o := fun q o h1 h2 h3 => by rw [updC_ne h2]; exact e1 q o h1 h3
  have l2 : G.length ≤ (G1.set x2 (.var (row3 0 ((numP 1099511627776 st).1 : Int) 0))).length := by rw [List.length_set]; exact l1
  generalize updC C1 x2 (.var (row3 0 ((numP 1099511627776 st).1 : Int) 0)) = C2 at a2 r2 c2 e2
  generalize G1.set x2 (.var (row3 0 ((numP 1099511627776 st).1 : Int) 0)) = G2 at a2 l2 ⊢
  refine f51_ok (most := 1099511627776) a2 r2 (by decide) fun G3 C3 a3 e3 r3 l3 => int_i ?_
  exact bd_end (off := 2) (m := 1) a3 (fun q o h1 h2 h3 => e3 q o h1 (e2 q o h1 h2 h3)) (e3 _ _ (Ne.symm hxp) c2) hx hxp r3 (by omega) rfl rfl (by simp [row3]) rfl (rp3_m slF_nil) hq
 ·rename_i k6
  have k6 : ¬ k = 6 := fun e => k6 (decide_eq_true e)
  have hb : bodyP k st = (rp3 0 0 0,st) := by unfold bodyP; rw [if_neg k1,if_neg k2,if_neg k3,if_neg k4,if_neg k5,if_neg k6]
  rw [hb] at hq
  exact tidy_none (hq _ G C h (fun q o _ _ h => h) hc hr (Nat.le_refl _) (rp3_m slF_nil))
end
end Go.Am
namespace Go.Am
open Go
section
variable {B : Base} {n : Nat} {H G : Heap} {C : Nat → Option AObj} {Q : AV → Heap → Prop} {p x4 x7 : Nat} {s : List UInt8} {b : AV} {kind : Int}
theorem RpM.len {M : MM} {c : List AV} {r : Rpl} (a : RpM M c r) : c.length = 9 := by
 obtain ⟨_,_,_,_,_,_,rfl,_⟩ := a; rfl
theorem RpM.sl {c : List AV} {r : Rpl} {k0 : Nat} (a : RpM (SlF C k0) c r) (k : KW H G C) : RpR B G c r := RpM.r (a.mono fun _ _ _ h => h.sl k)
def SoQ (B : Base) (H : Heap) (kind : Int) (s : List UInt8) (Q : AV → Heap → Prop) : Prop :=
 (sayGood kind s = false → ∀ L,Q (.tuple [.agg (row3 0 0 0),.int .i64 2]) (H ++ L)) ∧ (sayGood kind s = true → ∀ c L,RpR B (H ++ L) c (sayOfP kind s).1 → Q (.tuple [.agg c,.int .i64 0]) (H ++ L))
theorem so_fin {c : List AV} {d : Bool} (k : KW H G C) (c4 : C x4 = some (.var (row3 0 0 0))) (c7 : C x7 = some (.var c)) (hx4 : H.length ≤ x4) (hm : RpM (SlF C 0) c (sayOfP kind s).1) (hd : d = !sayGood kind s) (hq : SoQ B H kind s Q) : J22_0 B (Cl B) n (pt x4) (pt x7) (.bool d) G Q := by
 refine J22_0_in ?_
 rw [pBool_bool]
 split
 ·rename_i e
  rw [show layParts [(.int .i64 0),(.int .i64 0),(.int .i64 0),.nils,.nils,.nils,.nils,.nils,.nils] [] = some (row3 0 0 0) from rfl,ob_some]
  refine op_st (c := row3 0 0 0) (vs := row3 0 0 0) rfl rfl (k.cs x4 _ c4) (by simp [row3]) ?_
  have k3 := k.set c4 hx4 (.var (row3 0 0 0))
  rw [putAt_all rfl,show peekN B (G.set x4 (.var (row3 0 0 0))) 9 (pt x4) = some (row3 0 0 0) from peekVN (k3.cs x4 _ updC_at) rfl,ob_some]
  obtain ⟨L,hL⟩ := k3.pre
  refine tidy_none ?_
  rw [hL]
  exact hq.1 (by rw [hd] at e; simpa using e) L
 ·rename_i e
  rw [show peekN B G 9 (pt x7) = some c from peekVN (k.cs x7 _ c7) hm.len,ob_some]
  refine op_st (c := row3 0 0 0) (vs := c) rfl hm.len (k.cs x4 _ c4) (by simp [row3]) ?_
  have k3 := k.set c4 hx4 (.var c)
  rw [putAt_all (by rw [hm.len]; rfl),show peekN B (G.set x4 (.var c)) 9 (pt x4) = some c from peekVN (k3.cs x4 _ updC_at) hm.len,ob_some]
  have hr : RpR B (G.set x4 (.var c)) c (sayOfP kind s).1 := (hm.mono (SlF.upd c4)).sl k3
  obtain ⟨L,hL⟩ := k3.pre
  refine tidy_none ?_
  rw [hL] at hr ⊢
  exact hq.2 (by rw [hd] at e; simpa using e) c L hr
theorem so_end {c : List AV} (k : KW H G C) (c4 : C x4 = some (.var (row3 0 0 0))) (c7 : C x7 = some (.var c)) (hx4 : H.length ≤ x4) (hr : RdR B H C p (sayOfP kind s).2) (hm : RpM (SlF C 0) c (sayOfP kind s).1) (hb : Bs B H b s) (hs : s.length ≤ 1000000) (hq : SoQ B H kind s Q) : J22_2 B (Cl B) n kind b (pt x4) (pt p) (pt x7) G Q := by
 refine J22_2_in ?_
 rw [show peekN B G 9 (pt x7) = some c from peekVN (k.cs x7 _ c7) hm.len,ob_some]
 have fin : ∀ (v : AV) (e : Int) (L : List AObj) (t : List UInt8),Bs B (G ++ L) v t → (decide (e = 0) && t == s) = (!(sayW kind (sayOfP kind s).1) && sayF kind (sayOfP kind s).1 == s) → J22_1 B (Cl B) n b (pt x4) (pt p) (pt x7) v (.int .i64 e) (G ++ L) Q := fun v e L t hv hgood => by
  have k2 := k.grow L
  obtain ⟨bv,r1,r2,r3,r4⟩ := hr
  refine J22_1_in (op_nil (op_fldP ?_))
  rw [peekV (k2.cs p _ r1) (v := .bool (sayOfP kind s).2.2) rfl,ob_some,pBool_bool]
  refine bs_iff.2 ⟨fun hw => ?_,fun hw => ?_⟩
  ·exact so_fin k2 c4 c7 hx4 hm (by unfold sayGood; rw [hw]; rfl) hq
  ·refine f52_ok hv (k2.bs hb) (tyK_bool (op_notB ?_))
   refine so_fin k2 c4 c7 hx4 hm ?_ hq
   unfold sayGood
   rw [hw,hgood]; rfl
 refine f17_ok (hm.sl k) (sayOfP_ok hs) (fun hw L => ?_) fun hw v L hv => ?_
 ·exact op_ext2 (fun K hK => hK) (fin .nils 1 L [] Bs.nil (by rw [hw]; rfl))
 ·exact op_ext2 (fun K hK => Sl.live hv.bs K hK) (fin v 0 L _ hv.bs (by rw [hw]; rfl))
theorem so_main (k : KW H G C) (c4 : C x4 = some (.var (row3 0 0 0))) (hr : RdR B H C p (s,false)) (hx4 : H.length ≤ x4) (hne : x4 ≠ p) (hb : Bs B H b s) (hs : s.length ≤ 1000000) (hq : SoQ B H kind s Q) : J22_4 B (Cl B) n kind b (pt x4) (pt p) G Q := by
 refine J22_4_in (f51_ok (most := 10) k hr (by decide) fun G1 C1 k1 e1 r1 l1 => int_i ?_)
 rw [show layParts [(.int .i64 0),(.int .i64 0),(.int .i64 0),.nils,.nils,.nils,.nils,.nils,.nils] [(0,1,.int .i64 ((numP 10 (s,false)).1 : Int))] = some (row3 ((numP 10 (s,false)).1 : Int) 0 0) from rfl,ob_some]
 refine op_alloc (op_st_last rfl rfl ?_)
 have k2 := k1.add (.var (row3 ((numP 10 (s,false)).1 : Int) 0 0))
 have c42 := keeps_add (o := .var (row3 ((numP 10 (s,false)).1 : Int) 0 0)) k1 _ _ (e1 _ _ hne c4)
 have r2 := r1.mono (C' := updC C1 G1.length (.var (row3 ((numP 10 (s,false)).1 : Int) 0 0))) fun o ho => keeps_add k1 p o ho
 have c72 : updC C1 G1.length (.var (row3 ((numP 10 (s,false)).1 : Int) 0 0)) G1.length = some (.var (row3 ((numP 10 (s,false)).1 : Int) 0 0)) := updC_at
 have hx7 := k1.le
 have hp7 : p ≠ G1.length := by
  obtain ⟨z,hz⟩ := r1.var
  have := k1.lt hz
  omega
 have h47 : x4 ≠ G1.length := by
  have := k1.lt (e1 _ _ hne c4)
  omega
 have hs2 : (numP 10 (s,false)).2.1.length ≤ 1000000 := Nat.le_trans (numP_le 10 (s,false)).2 hs
 refine J22_3_in (op_fldP ?_)
 rw [peekV (k2.cs _ _ c72) (v := .int .i64 ((numP 10 (s,false)).1 : Int)) rfl,ob_some,pInt_int]
 generalize updC C1 G1.length (.var (row3 ((numP 10 (s,false)).1 : Int) 0 0)) = C2 at k2 c42 r2 c72
 generalize G1 ++ [AObj.var (row3 ((numP 10 (s,false)).1 : Int) 0 0)] = G2 at k2 ⊢
 by_cases h0 : (numP 10 (s,false)).1 = 0
 ·have e : sayOfP kind s = bodyP kind (numP 10 (s,false)).2 := by unfold sayOfP; rw [if_pos h0]
  refine bs_yes (by simp [h0]) ?_
  rw [h0] at c72
  refine f56_ok k2 r2 hs2 c72 hx7 hp7 fun c G' C' k' e' c' r' l' m' => live_tuple ?_
  rw [← e] at r' m'
  exact so_end k' (e' _ _ hne h47 c42) c' hx4 r' m' hb hs hq
 ·have e : sayOfP kind s = (rp3 (numP 10 (s,false)).1 0 0,(numP 10 (s,false)).2) := by unfold sayOfP; rw [if_neg h0]
  refine bs_no (by simp [h0]) ?_
  refine so_end k2 c42 c72 hx4 (by rw [e]; exact r2) ?_ hb hs hq
  rw [e]
  exact rp3_m slF_nil
theorem f22_ok (hb : Bs B H b s) (hcap : capOK b) (hs : s.length ≤ 1000000) (hq : SoQ B H kind s Q) : Cl B 22 [.int .i64 kind,b] H Q := by
 refine f22_in fun n cl hn hcl hH hA => op_alloc (J22_5_in ?_)
 subst hcl
 rw [show layParts [.nils,(.bool false)] [(0,1,b)] = some [b,.bool false] from by simp only [layParts,bs_cells hb]; rfl,ob_some]
 refine op_box rfl rfl ?_
 have k0 : KW H H (fun _ => none) := ⟨⟨[],(List.append_nil _).symm⟩,fun p o hp => by cases hp⟩
 have k1 := k0.add (.var (row3 0 0 0))
 have k2 := k1.add (.var [b,.bool false])
 have hl : (H ++ [AObj.var (row3 0 0 0)]).length = H.length + 1 := by simp
 have h1 : H.length ≤ (H ++ [AObj.var (row3 0 0 0)]).length := by rw [hl]; omega
 have h2 : H.length ≠ (H ++ [AObj.var (row3 0 0 0)]).length := by rw [hl]; omega
 exact so_main k2 (keeps_add k1 _ _ updC_at) ⟨b,updC_at,h1,hb,hcap⟩ (Nat.le_refl _) h2 hb hs hq
end
end Go.Am
namespace Go.Am
open Go
def zq : List AV := [.int .i64 0,.nils,.str [],.str [],.str [],.int .i64 0]
def askP (k : Int) (st : RS) : Rq × RS :=
 if k = 1 then (⟨k,(listP entP 32 st).1,[],[],[],0⟩,(listP entP 32 st).2)
 else if k = 2 then (⟨k,[],(textP st).1,[],[],0⟩,(textP st).2)
 else if k = 3 then (⟨k,[],[],(textP st).1,(textP (textP st).2).1,0⟩,(textP (textP st).2).2)
 else if k = 4 ∨ k = 5 then (⟨k,[],[],[],[],((numP 1099511627776 st).1 : Int)⟩,(numP 1099511627776 st).2)
 else (⟨k,[],[],[],[],0⟩,st)
def askOfP (s : List UInt8) : Rq × RS := match s with
 | [] => (⟨0,[],[],[],[],0⟩,([],true))
 | c0 :: r => askP (c0.toNat : Int) (r,false)
def askGood (s : List UInt8) : Bool := !(askOfP s).2.2 && (!(akW (askOfP s).1) && akF (askOfP s).1 == s)
def RqOk (r : Rq) : Prop := r.epoch ≤ 9223372036854775807 ∧ r.ents.length ≤ 50 ∧ r.key.length ≤ 1000000 ∧ r.lo.length ≤ 1000000 ∧ r.hi.length ≤ 1000000
def AskQ (B : Base) (H : Heap) (s : List UInt8) (Q : AV → Heap → Prop) : Prop :=
 (askGood s = false → ∀ L,Q (.tuple [.agg zq,.int .i64 2]) (H ++ L)) ∧ (askGood s = true → ∀ (ev : AV) L,Sl B (H ++ L) 4 ev ((askOfP s).1.ents.map Ent.row) → Q (.tuple [.agg ((askOfP s).1.row ev),.int .i64 0]) (H ++ L))
theorem askP_ok {k : Int} {st : RS} (h : st.1.length ≤ 1000000) : RqOk (askP k st).1 := by
 have z : (0 : Int) ≤ 9223372036854775807 := by decide
 have h1 := textP_le st
 have h2 := textP_le (textP st).2
 have h3 := listP_le entP_le 32 st
 have h4 := num_i st
 unfold askP
 split
 ·exact ⟨z,by show (listP entP 32 st).1.length ≤ 50; omega,Nat.zero_le _,Nat.zero_le _,Nat.zero_le _⟩
 split
 ·exact ⟨z,Nat.zero_le _,by show (textP st).1.length ≤ _; omega,Nat.zero_le _,Nat.zero_le _⟩
 split
 ·exact ⟨z,Nat.zero_le _,Nat.zero_le _,by show (textP st).1.length ≤ _; omega,by show (textP (textP st).2).1.length ≤ _; omega⟩
 split
 ·exact ⟨h4,Nat.zero_le _,Nat.zero_le _,Nat.zero_le _,Nat.zero_le _⟩
 ·exact ⟨z,Nat.zero_le _,Nat.zero_le _,Nat.zero_le _,Nat.zero_le _⟩
section
variable {B : Base} {n : Nat} {H G : Heap} {C : Nat → Option AObj} {Q : AV → Heap → Prop} {p x2 x5 : Nat} {s : List UInt8} {b : AV}
theorem ask_bad (h : KW H G C) {c2 : List AV} (h2 : C x2 = some (.var c2)) (hl : c2.length = 6) (hH : H.length ≤ x2) (hg : askGood s = false) (hq : AskQ B H s Q) :
  ob (layParts [(.int .i64 0),.nils,(.str []),(.str []),(.str []),(.int .i64 0)] []) fun c4 => (aop B E0 G (fun v5 H6 => ob (peekN B H6 6 (pt x2)) fun c7 => tidyK n Q (.tuple [.agg c7,.int .i64 (2)]) H6) (.st 6 (.const (pt x2)) (.const (.agg c4)))) := by
 rw [show layParts [(.int .i64 0),.nils,(.str []),(.str []),(.str []),(.int .i64 0)] [] = some zq from rfl,ob_some]
 refine op_st (c := c2) (vs := zq) rfl rfl (h.cs x2 _ h2) (by omega) ?_
 have h3 := h.set h2 hH (.var zq)
 rw [putAt_all (by rw [hl]; rfl),show peekN B (G.set x2 (.var zq)) 6 (pt x2) = some zq from peekVN (h3.cs x2 _ updC_at) rfl,ob_some]
 obtain ⟨L,hL⟩ := h3.pre
 refine tidy_none ?_
 rw [hL]
 exact hq.1 hg L
structure AskS (B : Base) (H G : Heap) (C : Nat → Option AObj) (x2 p x5 : Nat) (r : Rq) (ev : AV) (st : RS) : Prop where
 kw : KW H G C
 c2 : C x2 = some (.var zq)
 c5 : C x5 = some (.var (r.row ev))
 rd : RdR B H C p st
 gr : SlF C 0 4 ev (r.ents.map Ent.row)
 h2 : H.length ≤ x2
 h5 : H.length ≤ x5
 n25 : x2 ≠ x5
 n2p : x2 ≠ p
 n5p : x5 ≠ p
theorem ask_end {r : Rq} {ev : AV} {st : RS} (h : AskS B H G C x2 p x5 r ev st) (he : askOfP s = (r,st)) (ho : RqOk r) (hb : Bs B H b s) (hq : AskQ B H s Q) : J20_6 B (Cl B) n b (pt x2) (pt p) (pt x5) G Q := by
 have hk := h.kw
 obtain ⟨bv,r1,r2,r3,r4⟩ := h.rd
 refine J20_6_in ?_
 rw [show peekN B G 6 (pt x5) = some (r.row ev) from peekVN (hk.cs x5 _ h.c5) rfl,ob_some]
 have hsl : Sl B G 4 ev (r.ents.map Ent.row) := h.gr.sl hk
 have fin : ∀ (v : AV) (e : Int) (L : List AObj) (t : List UInt8),Bs B (G ++ L) v t → (decide (e = 0) && t == s) = (!(akW r) && akF r == s) → J20_5 B (Cl B) n b (pt x2) (pt p) (pt x5) v (.int .i64 e) (G ++ L) Q := fun v e L t hv hgood => by
  have k2 := hk.grow L
  have d2 := h.c2
  have last : ∀ d : Bool,d = !askGood s → J20_4 B (Cl B) n (pt x2) (pt x5) (.bool d) (G ++ L) Q := fun d hd => by
   refine J20_4_in ?_
   rw [pBool_bool]
   split
   ·rename_i e
    exact ask_bad k2 d2 rfl h.h2 (by rw [hd] at e; simpa using e) hq
   ·rename_i e
    have g1 : askGood s = true := by rw [hd] at e; simpa using e
    rw [show peekN B (G ++ L) 6 (pt x5) = some (r.row ev) from peekVN (k2.cs x5 _ h.c5) rfl,ob_some]
    refine op_st (c := zq) (vs := r.row ev) rfl rfl (k2.cs x2 _ d2) (by simp [zq,Rq.row]) ?_
    have k3 := k2.set d2 h.h2 (.var (r.row ev))
    rw [putAt_all (show zq.length = (r.row ev).length from rfl),show peekN B ((G ++ L).set x2 (.var (r.row ev))) 6 (pt x2) = some (r.row ev) from peekVN (k3.cs x2 _ updC_at) rfl,ob_some]
    have hev : Sl B ((G ++ L).set x2 (.var (r.row ev))) 4 ev (r.ents.map Ent.row) := SlF.sl (SlF.upd d2 _ _ _ h.gr) k3
    obtain ⟨L',hL'⟩ := k3.pre
    refine tidy_none ?_
    rw [hL'] at hev ⊢
    have := hq.2 g1 ev L'
    rw [he] at this
    exact this hev
  refine J20_5_in (op_nil (op_fldP ?_))
  rw [peekV (k2.cs p _ r1) (v := .bool st.2) rfl,ob_some,pBool_bool]
  refine bs_iff.2 ⟨fun hw => last true (by unfold askGood; rw [he]; simp only [hw]; rfl),fun hw => ?_⟩
  refine f52_ok hv (k2.bs hb) (tyK_bool (op_notB (last _ ?_)))
  unfold askGood
  rw [he]
  simp only [hw,hgood]
  rfl
 refine g13_ok hsl ho.1 ho.2 (fun hw L => ?_) fun hw v L hv => ?_
 ·exact op_ext2 (fun K hK => hK) (fin .nils 1 L [] Bs.nil (by rw [hw]; rfl))
 ·exact op_ext2 (fun K hK => Sl.live hv.bs K hK) (fin v 0 L (akF r) hv.bs (by rw [hw]; rfl))
theorem AskS.put {r r' : Rq} {ev ev' : AV} {st : RS} (h : AskS B H G C x2 p x5 r ev st) {off : Nat} {v : AV} (hp : putAt (r.row ev) (0 + off) [v] = r'.row ev') (hv : v.cells? = some [v]) (hoff : off < 6) (hg : SlF C 0 4 ev' (r'.ents.map Ent.row))
  {K : AV → Heap → Prop} (hk : ∀ G' C',AskS B H G' C' x2 p x5 r' ev' st → K .dead G') : aop B E0 G (fun v42 _ => aop B E0 G K (.st 1 (.const v42) (.const v))) (.fieldPtr off (.const (pt x5))) := by
 refine op_fldP ?_
 refine op_st (c := r.row ev) (vs := [v]) hv rfl (h.kw.cs x5 _ h.c5) (by simp only [Rq.row,List.length_cons,List.length_nil]; omega) ?_
 rw [hp]
 exact hk _ _ ⟨h.kw.set h.c5 h.h5 _,by rw [updC_ne h.n25]; exact h.c2,updC_at,h.rd.mono fun o ho => by rw [updC_ne (Ne.symm h.n5p)]; exact ho,SlF.upd h.c5 _ _ _ hg,h.h2,h.h5,h.n25,h.n2p,h.n5p⟩
theorem AskS.read {r : Rq} {ev : AV} {st st' : RS} (h : AskS B H G C x2 p x5 r ev st) {G' : Heap} {C' : Nat → Option AObj} (k : KW H G' C') (e : Keeps1 C C' p) (rd : RdR B H C' p st') : AskS B H G' C' x2 p x5 r ev st' := by
 obtain ⟨z,hz⟩ := h.rd.var
 exact ⟨k,e x2 _ h.n2p h.c2,e x5 _ h.n5p h.c5,rd,SlF.keep hz e _ _ _ h.gr,h.h2,h.h5,h.n25,h.n2p,h.n5p⟩
theorem ask_switch {c0 : UInt8} {rest : List UInt8} (h : AskS B H G C x2 p x5 ⟨(c0.toNat : Int),[],[],[],[],0⟩ .nils (rest,false)) (hs : rest.length ≤ 1000000) (hb : Bs B H b (c0 :: rest)) (hq : AskQ B H (c0 :: rest) Q) : J20_3 B (Cl B) n b (pt x2) (pt p) (pt x5) (c0.toNat : Int) G Q := by
 have e0 : askOfP (c0 :: rest) = askP (c0.toNat : Int) (rest,false) := rfl
 have o0 : RqOk (askP (c0.toNat : Int) (rest,false)).1 := askP_ok hs
 generalize (c0.toNat : Int) = kind at h e0 o0 ⊢
 have fin : ∀ {r : Rq} {ev : AV} {st : RS} (G' : Heap) (C' : Nat → Option AObj),askP kind (rest,false) = (r,st) → AskS B H G' C' x2 p x5 r ev st → J20_6 B (Cl B) n b (pt x2) (pt p) (pt x5) G' Q := fun G' C' e h' => ask_end h' (by rw [e0,e]) (by rw [e] at o0; exact o0) hb hq
 refine J20_3_in (ib_eq (J20_2_in ?_))
 rw [pBool_bool]
 split
 ·rename_i k1
  have k1 := of_decide_eq_true k1
  refine ents_rd (most := 32) (by omega) h.kw h.rd hs fun v G1 C1 a1 e1 r1 l1 g1 => live_isL (slF_isL g1) ?_
  have h1 := h.read a1 e1 r1
  exact h1.put (r' := ⟨kind,(listP entP 32 (rest,false)).1,[],[],[],0⟩) (ev' := v) rfl (cells_isL (slF_isL g1)) (by decide) (SlF.low (Nat.zero_le _) _ _ _ g1) fun G' C' h' => fin G' C' (by unfold askP; rw [if_pos k1]) h'
 rename_i k1
 have k1 : ¬ kind = 1 := fun e => k1 (decide_eq_true e)
 refine ib_eq (J20_1_in ?_)
 rw [pBool_bool]
 split
 ·rename_i k2
  have k2 := of_decide_eq_true k2
  refine f50_ok h.kw h.rd hs fun G1 C1 a1 e1 r1 l1 => str_u ?_
  have h1 := h.read a1 e1 r1
  exact h1.put (r' := ⟨kind,[],(textP (rest,false)).1,[],[],0⟩) (ev' := .nils) rfl rfl (by decide) h1.gr fun G' C' h' => fin G' C' (by unfold askP; rw [if_neg k1,if_pos k2]) h'
 rename_i k2
 have k2 : ¬ kind = 2 := fun e => k2 (decide_eq_true e)
 refine bs_iff.2 ⟨fun k3 => ?_,fun k3 => ?_⟩
 ·have k3 : kind = 3 := by simpa using k3
  have hs2 := (textP_le (rest,false)).2
  refine f50_ok h.kw h.rd hs fun G1 C1 a1 e1 r1 l1 => str_u ?_
  have h1 := h.read a1 e1 r1
  refine h1.put (r' := ⟨kind,[],[],(textP (rest,false)).1,[],0⟩) (ev' := .nils) rfl rfl (by decide) h1.gr fun G2 C2 h2 => ?_
  refine f50_ok h2.kw h2.rd (Nat.le_trans hs2 hs) fun G3 C3 a3 e3 r3 l3 => str_u ?_
  have h3 := h2.read a3 e3 r3
  exact h3.put (r' := ⟨kind,[],[],(textP (rest,false)).1,(textP (textP (rest,false)).2).1,0⟩) (ev' := .nils) rfl rfl (by decide) h3.gr fun G' C' h' => fin G' C' (by unfold askP; rw [if_neg k1,if_neg k2,if_pos k3]) h'
 have k3 : ¬ kind = 3 := by simpa using k3
 have num : ∀ d : Bool,(d = true ↔ (kind = 4 ∨ kind = 5)) → J20_0 B (Cl B) n b (pt x2) (pt p) (pt x5) (.bool d) G Q := fun d hd => by
  refine J20_0_in ?_
  rw [pBool_bool]
  split
  ·rename_i e
   refine f51_ok (most := 1099511627776) h.kw h.rd (by decide) fun G1 C1 a1 e1 r1 l1 => int_i ?_
   have h1 := h.read a1 e1 r1
   exact h1.put (r' := ⟨kind,[],[],[],[],((numP 1099511627776 (rest,false)).1 : Int)⟩) (ev' := .nils) rfl rfl (by decide) h1.gr fun G' C' h' => fin G' C' (by unfold askP; rw [if_neg k1,if_neg k2,if_neg k3,if_pos (hd.1 e)]) h'
  ·rename_i e
   exact fin G C (by unfold askP; rw [if_neg k1,if_neg k2,if_neg k3,if_neg (fun e2 => e (hd.2 e2))]) h
 refine bs_iff.2 ⟨fun k4 => num true ?_,fun k4 => ib_eq (num _ ?_)⟩
 ·have k4 : kind = 4 := by simpa using k4
  simp [k4]
 ·have k4 : ¬ kind = 4 := by simpa using k4
  simp [k4]
theorem ask_mid {c0 : UInt8} {rest : List UInt8} {v8 : AV} (hb : Bs B H b (c0 :: rest)) (hs : (c0 :: rest).length ≤ 1000000) (k2 : KW H G C) (c22 : C x2 = some (.var zq)) (c42 : C p = some (.var [v8,.bool false])) (hx2l : H.length ≤ x2) (hpl : H.length ≤ p) (hne : x2 ≠ p) (s2 : Bs B H v8 rest) (s3 : capOK v8) (hq : AskQ B H (c0 :: rest) Q) : J20_8 B (Cl B) n b (pt x2) (pt p) G Q := by
 have hb2 := k2.bs hb
 refine J20_8_in ((op_idxB (i := 0) (c := c0) hb2 rfl fun hpk => ?_ : aop B E0 G _ (.indexPtr 1 (.const b) (.const (.int .i64 ((0 : Nat) : Int))))))
 have hc0 : c0.toNat < 256 := c0.toNat_lt
 rw [hpk,ob_some,pInt_int,w64 (by omega)]
 rw [show layParts [(.int .i64 0),.nils,(.str []),(.str []),(.str []),(.int .i64 0)] [(0,1,.int .i64 (c0.toNat : Int))] = some (Rq.row ⟨(c0.toNat : Int),[],[],[],[],0⟩ .nils) from rfl,ob_some]
 refine op_alloc (op_st_last rfl rfl ?_)
 have k3 := k2.add (.var (Rq.row ⟨(c0.toNat : Int),[],[],[],[],0⟩ .nils))
 have hpG := k2.lt c42
 have hx2G := k2.lt c22
 have hl2 : rest.length ≤ 1000000 := by rw [List.length_cons] at hs; omega
 have hS : AskS B H (G ++ [.var (Rq.row ⟨(c0.toNat : Int),[],[],[],[],0⟩ .nils)]) _ x2 p G.length ⟨(c0.toNat : Int),[],[],[],[],0⟩ .nils (rest,false) :=
  ⟨k3,by rw [updC_ne (by omega)]; exact c22,updC_at,⟨v8,by rw [updC_ne (by omega)]; exact c42,hpl,s2,s3⟩,slF_nil 4,hx2l,by omega,by omega,hne,by omega⟩
 refine J20_7_in (op_fldP ?_)
 rw [peekV (hS.kw.cs _ _ hS.c5) (v := .int .i64 (c0.toNat : Int)) rfl,ob_some,pInt_int]
 exact ask_switch hS hl2 hb hq
theorem ask_main (hb : Bs B H b s) (hcap : capOK b) (hs : s.length ≤ 1000000) (k1 : KW H G C) (c2 : C x2 = some (.var zq)) (hx2l : H.length ≤ x2) (hq : AskQ B H s Q) : J20_10 B (Cl B) n b (pt x2) G Q := by
 refine J20_10_in ?_
 rw [hb.len,ob_some]
 cases s with
 | nil => exact bs_yes rfl (ask_bad k1 c2 rfl hx2l rfl hq)
 | cons c0 rest =>
  refine bs_no (by simp; omega) (J20_9_in ?_)
  obtain ⟨v8,s1,s2,s3⟩ := bs_drop hb hcap (m := 1) (by simp)
  refine op_sl2 hb.len s1 ?_
  rw [show layParts [.nils,(.bool false)] [(0,1,v8)] = some [v8,.bool false] from by simp only [layParts,bs_cells s2]; rfl,ob_some]
  refine op_box rfl rfl ?_
  have hx2G := k1.lt c2
  have hHG : H.length ≤ G.length := by omega
  have hne : x2 ≠ G.length := by omega
  exact ask_mid hb hs (k1.add (.var [v8,.bool false])) (by rw [updC_ne hne]; exact c2) updC_at hx2l hHG hne s2 s3 hq
theorem f20_ok (hb : Bs B H b s) (hcap : capOK b) (hs : s.length ≤ 1000000) (hq : AskQ B H s Q) : Cl B 20 [b] H Q := by
 refine f20_in fun n cl hn hcl hH hA => op_alloc ?_
 subst hcl
 have k0 : KW H H (fun _ => none) := ⟨⟨[],(List.append_nil _).symm⟩,fun p o hp => by cases hp⟩
 exact ask_main hb hcap hs (k0.add (.var zq)) updC_at (Nat.le_refl _) hq
end
end Go.Am
