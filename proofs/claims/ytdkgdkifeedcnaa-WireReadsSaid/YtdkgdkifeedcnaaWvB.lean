/- The writer,again: what it leaves alone; numbers,texts,flags,digests,entries. -/
import Derived.Test.YtdkgdkifeedcnaaWrB
namespace Go.Am
open Go
def Vk (wi : Nat) (G G' : Heap) : Prop := ∀ j c,j ≠ wi → G[j]? = some (.var c) → G'[j]? = some (.var c)
theorem Vk.refl {wi : Nat} {G : Heap} : Vk wi G G := fun _ _ _ h => h
theorem Vk.trans {wi : Nat} {G G1 G2 : Heap} (h : Vk wi G G1) (h2 : Vk wi G1 G2) : Vk wi G G2 := fun j c hj hc => h2 j c hj (h j c hj hc)
theorem Vk.app {wi : Nat} {G L : Heap} : Vk wi G (G ++ L) := fun _ _ _ h => get_pre h
structure Sv (B : Base) (H G : Heap) (wi : Nat) (s : List UInt8) (wr : Bool) : Prop where
 app : ∃ L b,G = H ++ L ∧ Wr G wi b wr ∧ AppOk B H L 1 b (s.map brw)
 far : H.length ≤ wi
section
variable {B : Base} {n : Nat} {H G : Heap} {Q : AV → Heap → Prop} {wi : Nat} {s t : List UInt8} {wr : Bool} {K : Heap → Prop} {e : Ent}
theorem Sv.pre {M : Heap} (h : Sv B H G wi s wr) : Sv B H (G ++ M) wi s wr := by
 obtain ⟨⟨L,b,rfl,hw,ha⟩,hf⟩ := h
 exact ⟨⟨L ++ M,b,by rw [List.append_assoc],get_pre hw,ha.pre⟩,hf⟩
theorem Sv.grown (h : Sv B H G wi s wr) : ∃ L,G = H ++ L := by
 obtain ⟨⟨L,b,rfl,_⟩,_⟩ := h
 exact ⟨L,rfl⟩
theorem Sv.lt (h : Sv B H G wi s wr) : wi < G.length := by
 obtain ⟨⟨L,b,_,hw,_⟩,_⟩ := h
 exact lt_of_get hw
theorem pre_of' {G1 : Heap} {L : Heap} {k : Nat} (hk : H.length ≤ k) (hl : G1.length = (H ++ L).length) (hg : ∀ j,j ≠ k → G1[j]? = (H ++ L)[j]?) : ∃ L1,G1 = H ++ L1 := by
 refine ⟨G1.drop H.length,?_⟩
 have : G1.take H.length = H := by
  apply List.ext_getElem?
  intro j
  rw [List.getElem?_take]
  split
  ·rename_i hj
   rw [hg j (by omega),List.getElem?_append_left hj]
  ·rw [List.getElem?_eq_none (by omega)]
 conv => lhs; rw [← List.take_append_drop H.length G1,this]
theorem Sv.must {so : Bool} (h : Sv B H G wi s wr) (hk : ∀ G',Sv B H G' wi s (wr || !so) → Vk wi G G' → K G') : Cl B 25 [wp wi,.bool so] G fun v G' => pLive v fun _ => K G' := by
 obtain ⟨⟨L,b,rfl,hw,ha⟩,hf⟩ := h
 obtain ⟨k,rfl⟩ : ∃ k,wi = H.length + k := ⟨wi - H.length,by omega⟩
 have hlt := lt_of_get hw
 refine f25_ok hw (live_unit (hk _ ⟨⟨L.set k (.var [b,.bool (wr || !so)]),b,set_app _ _,get_set hlt,ha.set hw⟩,hf⟩ fun j c hj hc => ?_))
 rw [get_set_ne (Ne.symm hj)]; exact hc
theorem Sv.num {x : Int} (h : Sv B H G wi s wr) (hsz : s.length ≤ 400000000000) (hx : x ≤ 9223372036854775807) (hk : ∀ G',Sv B H G' wi (s ++ putF x.toNat) (wr || !numOk x) → Vk wi G G' → K G') : Cl B 29 [wp wi,.int .i64 x] G fun v G' => pLive v fun _ => K G' := by
 obtain ⟨⟨L,b,rfl,hw,ha⟩,hf⟩ := h
 refine f29_ok hw ha.sl hx hsz fun G1 hl hg hw1 => live_unit (hk _ ?_ fun j c hj hc => get_pre (by rw [hg j hj]; exact hc))
 obtain ⟨L1,hL1⟩ := pre_of' hf hl hg
 exact ⟨⟨L1 ++ [.arr ((s ++ putF x.toNat).map brw).flatten],growV (H ++ L).length 1 ((s ++ putF x.toNat).map brw),by rw [hL1,List.append_assoc],get_pre hw1,own_app hL1 (by simp [putF_ne]) hl.symm⟩,hf⟩
theorem Sv.text (h : Sv B H G wi s wr) (hsz : s.length ≤ 400000000000) (ht : t.length ≤ 1000000000) (hk : ∀ G',Sv B H G' wi (s ++ putF t.length ++ t) wr → Vk wi G G' → K G') : Cl B 28 [wp wi,.str t] G fun v G' => pLive v fun _ => K G' := by
 obtain ⟨⟨L,b,rfl,hw,ha⟩,hf⟩ := h
 refine f28_ok hw ha.sl hsz ht fun G1 hl hg hw1 => live_unit (hk _ ?_ fun j c hj hc => get_pre (by rw [hg j hj]; exact hc))
 obtain ⟨L1,hL1⟩ := pre_of' hf hl hg
 exact ⟨⟨L1 ++ [.arr ((s ++ putF t.length ++ t).map brw).flatten],growV (H ++ L).length 1 ((s ++ putF t.length ++ t).map brw),by rw [hL1,List.append_assoc],get_pre hw1,own_app hL1 (by simp [putF_ne]) hl.symm⟩,hf⟩
theorem Sv.done {Q' : AV → Heap → Prop} (h : Sv B H G wi s wr) (h1 : wr = true → Q' (.tuple [.nils,.int .i64 1]) G) (h2 : wr = false → ∀ v,BsC B G v s → Q' (.tuple [v,.int .i64 0]) G) : Cl B 30 [wp wi] G Q' := by
 obtain ⟨⟨L,b,rfl,hw,ha⟩,hf⟩ := h
 have hb : Bs B (H ++ L) b s := ha.sl
 exact f30_ok hw (fun K hK => Sl.live hb K hK) h1 fun e => h2 e b ⟨hb,ha.cap⟩
def Own (H G : Heap) (wi : Nat) (s : List UInt8) (wr : Bool) : Prop := ∃ j,Wr G wi (.slice (.new (H.length + j)) 0 s.length 1 none) wr ∧ G[H.length + j]? = some (.arr (s.map brw).flatten)
theorem Sv.load (h : Sv B H G wi s wr) : ∃ b,peek B G (.ptr (some (.new wi,0 + 0))) = some b ∧ Bs B G b s ∧ ∀ (M : Heap) (v : AV) (t : List UInt8) (K : Heap → Prop),Bs B (G ++ M) v t → s.length + t.length ≤ 900000000000 → (∀ G',Sv B H G' wi (s ++ t) wr → Vk wi G G' → (t ≠ [] → Own H G' wi (s ++ t) wr) → K G') →
  aop B E0 (G ++ M) (fun v18 H19 => aop B E0 H19 (fun v20 _ => aop B E0 H19 (fun v21 _ => aop B E0 H19 (fun _ H23 => K H23) (.st 1 (.const v21) (.const v18))) (.fieldPtr 0 (.const v20))) (.nilCheck (.const (wp wi)))) (.append 1 1 (.const b) (.const v)) := by
 obtain ⟨⟨L,b,hG,hw,ha⟩,hf⟩ := h
 subst hG
 refine ⟨b,peekV hw rfl,ha.sl,fun M v t K hv htl hk => ?_⟩
 have ha2 : AppOk B H (L ++ M) 1 b (s.map brw) := ha.pre
 have hw2 : Wr (H ++ (L ++ M)) wi b wr := by rw [← List.append_assoc]; exact get_pre hw
 rw [List.append_assoc] at hv ⊢
 obtain ⟨k,rfl⟩ : ∃ k,wi = H.length + k := ⟨wi - H.length,by omega⟩
 by_cases h0 : t = []
 ·subst h0
  have ap : ∀ K' : AV → Heap → Prop,K' b (H ++ (L ++ M)) → aop B E0 (H ++ (L ++ M)) K' (.append 1 1 (.const b) (.const v)) := fun K' hK => by
   have e1 := Sl.len hv
   have e2 := Sl.elems hv
   simp only [List.map_nil,List.length_nil,List.flatten_nil] at e1 e2
   simp only [aop,opK,Opd.look,ob_some,e1,e2]
   rw [if_pos (by simp)]
   have : appendTo B (H ++ (L ++ M)) 1 1 b 0 ([] : List AV) = some (b,H ++ (L ++ M)) := by
    obtain ⟨_,⟨rfl,_⟩ | ⟨o,off,rfl,_⟩ | ⟨j,_,rfl,_⟩⟩ := ha2 <;> rfl
   rw [this,ob_some]; exact hK
  refine ap _ (op_nil (op_fldP ?_))
  have hcb : b.cells? = some [b] := by
   obtain ⟨_,⟨rfl,_⟩ | ⟨o,off,rfl,_⟩ | ⟨j,_,rfl,_⟩⟩ := ha2 <;> rfl
  refine op_st (vs := [b]) (c := [b,.bool wr]) hcb rfl hw2 (by simp) (hk _ ?_ ?_ fun h => absurd rfl h)
  ·rw [show putAt [b,.bool wr] (0 + 0) [b] = [b,.bool wr] from rfl,set_same hw2,List.append_nil]
   exact ⟨⟨L ++ M,b,rfl,hw2,ha2⟩,hf⟩
  ·rw [show putAt [b,.bool wr] (0 + 0) [b] = [b,.bool wr] from rfl,set_same hw2,← List.append_assoc]
   exact Vk.app
 ·refine op_appX ha2 hv (by simpa using h0) (by simp [maxBytes]; omega) fun L3 hL3 hfr3 => op_nil (op_fldP ?_)
  have e1 : s.map brw ++ t.map brw = (s ++ t).map brw := by simp
  rw [e1]
  have hvar : ∀ (i : Nat) (c : List AV),(L ++ M : List AObj)[i]? = some (AObj.var c) → L3[i]? = some (AObj.var c) := fun i c hc => by
   rw [hfr3 i fun r e3 => by
    obtain ⟨_,⟨rfl,_⟩ | ⟨o,off,rfl,_⟩ | ⟨j,_,rfl,hj⟩⟩ := ha2
    ·cases e3
    ·cases e3
    ·have : j = i := by
      simp only [AV.slice.injEq,Id.new.injEq] at e3
      omega
     subst this
     rw [hj] at hc; cases hc]
   exact hc
  have hw2' := hw2
  unfold Wr at hw2'
  rw [get_app] at hw2'
  have hk3 := hvar k _ hw2'
  have hkl : k < L3.length := lt_of_get hk3
  have hw3 : (H ++ (L3 ++ [.arr ((s ++ t).map brw).flatten]))[H.length + k]? = some (.var [b,.bool wr]) := by
   rw [get_app,List.getElem?_append_left hkl]; exact hk3
  have hlt := lt_of_get hw3
  refine op_st (vs := [.slice (.new (H.length + (L ++ M).length)) 0 ((s ++ t).map brw).length 1 none]) (c := [b,.bool wr]) rfl rfl hw3 (by simp) (hk _ ?_ ?_ fun _ => ⟨(L ++ M).length,?_,?_⟩)
  ·refine ⟨⟨L3.set k (.var [.slice (.new (H.length + (L ++ M).length)) 0 ((s ++ t).map brw).length 1 none,.bool wr]) ++ [.arr ((s ++ t).map brw).flatten],.slice (.new (H.length + (L ++ M).length)) 0 ((s ++ t).map brw).length 1 none,?_,get_set hlt,?_⟩,hf⟩
   ·rw [set_app,List.set_append_left _ _ hkl]; rfl
   ·refine ⟨brws_len _,.inr (.inr ⟨(L ++ M).length,by simp [h0],rfl,?_⟩)⟩
    rw [List.getElem?_append_right (by simp [hL3])]
    simp [hL3]
  ·intro j c hj hc
   rw [get_set_ne (Ne.symm hj)]
   have hc2 : (H ++ (L ++ M))[j]? = some (.var c) := by rw [← List.append_assoc]; exact get_pre hc
   rcases Nat.lt_or_ge j H.length with h1 | h1
   ·rw [get_low h1] at hc2 ⊢; exact hc2
   ·obtain ⟨i,rfl⟩ : ∃ i,j = H.length + i := ⟨j - H.length,by omega⟩
    rw [get_app] at hc2 ⊢
    have := hvar i c hc2
    rw [List.getElem?_append_left (lt_of_get this)]; exact this
  ·show _ = _
   rw [get_set hlt,List.length_map]; rfl
  ·rw [get_set_ne (by omega),get_app,← hL3,get_app0]; rfl
def dg (d : List UInt8) : List AV := (d.map brw).flatten
theorem dg_len (d : List UInt8) : (dg d).length = d.length := by
 unfold dg
 rw [flatten_len (es := 1) (brws_len d),List.length_map,Nat.mul_one]
theorem Sv.digest {d : List UInt8} (h : Sv B H G wi s wr) (hd : d.length = 32) (hsz : s.length ≤ 400000000000) (hk : ∀ G',Sv B H G' wi (s ++ d) wr → Vk wi G G' → K G') : Cl B 73 [wp wi,.agg (dg d)] G fun v G' => pLive v fun _ => K G' := by
 refine f73_in fun n cl hn hcl hH hA => op_box (n := 32) rfl (by rw [dg_len,hd]) ?_
 subst hcl
 have h1 := h.pre (M := [.var (dg d)])
 obtain ⟨b,p,hb,ld⟩ := h1.load
 refine op_nil (op_fldP ?_)
 rw [p,ob_some]
 refine Sl.live hb _ ?_
 have hsl : ∀ K' : AV → Heap → Prop,(∀ v,Bs B (G ++ [.var (dg d)]) v d → K' v (G ++ [.var (dg d)])) → aop B E0 (G ++ [.var (dg d)]) K' (.sliceA 32 1 (.const (.ptr (some (.new G.length,0)))) none none) := fun K' hK => by
  have := hK (.slice (.new G.length) 0 32 1 (some 32)) ⟨brws_len _,.inr ⟨.new G.length,0,some 32,by rw [List.length_map,hd],cellsAt_iff'.2 ⟨dg d,?_,?_,?_⟩⟩⟩
  ·exact this
  ·simp only [cellsOf]; rw [get_app0]; rfl
  ·rw [dg_len,List.length_map]; omega
  ·rw [List.drop_zero,List.length_map,Nat.mul_one,← dg_len d,List.take_length]; rfl
 refine hsl _ fun v hv => ?_
 have := ld [] v d (fun H13 => tidyK n (fun v G' => pLive v fun _ => K G') (.tuple []) H13) (by rw [List.append_nil]; exact hv) (by omega) fun G' s1 k1 _ => tidy_none (live_unit (hk G' s1 (Vk.app.trans k1)))
 rw [List.append_nil] at this
 exact aop_mono (fun v H h => ⟨rfl,h⟩) _ this
theorem Sv.flag {c : Bool} (h : Sv B H G wi s wr) (hsz : s.length ≤ 400000000000) (hk : ∀ G',Sv B H G' wi (s ++ [if c then 1 else 0]) wr → Vk wi G G' → K G') : Cl B 67 [wp wi,.bool c] G fun v G' => pLive v fun _ => K G' := by
 refine f67_in fun n cl hn hcl hH hA => ?_
 subst hcl
 obtain ⟨b,p,hb,ld⟩ := h.load
 refine op_nil (op_fldP ?_)
 rw [p,ob_some]
 refine Sl.live hb _ ?_
 rw [show layParts [(.int .u8 0)] [(0,1,.int .u8 0)] = some (brw 0) from rfl,ob_some]
 refine slK_in ?_
 have hv : Bs B (G ++ [.arr (brw 0)]) (.slice (.new G.length) 0 1 1 (some 1)) [0] := sl_row1 rfl
 refine ld _ _ _ _ hv (by simp; omega) fun G' s1 k1 ow => ?_
 cases c with
 | false => rw [if_neg (by decide)]; exact tidy_none (live_unit (hk G' s1 k1))
 | true =>
  rw [if_pos rfl]
  obtain ⟨j,w1,g1⟩ := ow (by simp)
  obtain ⟨⟨L,b2,hG,w2,a2⟩,hf⟩ := s1
  refine op_nil (op_fldP ?_)
  rw [peekV w1 (v := .slice (.new (H.length + j)) 0 (s ++ [0]).length 1 none) rfl,ob_some]
  refine live_slice _ (op_nil (op_fldP ?_))
  rw [peekV w1 (v := .slice (.new (H.length + j)) 0 (s ++ [0]).length 1 none) rfl,ob_some]
  refine live_slice _ ?_
  rw [show lenOf (.slice (.new (H.length + j)) 0 (s ++ [(0 : UInt8)]).length 1 none) = some (s ++ [(0 : UInt8)]).length from rfl,ob_some]
  have ei : IntKind.i64.wrap (((s ++ [(0 : UInt8)]).length : Int) - 1) = ((s.length : Nat) : Int) := by
   rw [w64 (by rw [List.length_append,List.length_singleton]; omega),List.length_append,List.length_singleton]; omega
  rw [ei]
  have hs2 : Bs B G' (.slice (.new (H.length + j)) 0 (s ++ [0]).length 1 none) (s ++ [0]) := ⟨brws_len _,.inr ⟨_,_,_,by rw [List.length_map],cellsAt_iff'.2 ⟨((s ++ [0]).map brw).flatten,by simp only [cellsOf,g1],by rw [flatten_len (brws_len _)]; omega,by rw [List.drop_zero,← flatten_len (brws_len _),List.take_length]⟩⟩⟩
  refine op_idxB hs2 (i := s.length) (c := 0) (by simp) fun _ => ?_
  have hfl : ((s ++ [0]).map brw).flatten.length = s.length + 1 := by rw [flatten_len (brws_len _)]; simp
  refine op_st_arr (vs := [.int .u8 1]) rfl rfl g1 (by rw [hfl]; simp) (tidy_none (live_unit (hk _ ?_ ?_)))
  ·have e3 : putAt ((s ++ [0]).map brw).flatten (0 + s.length * 1) [.int .u8 1] = ((s ++ [(1 : UInt8)]).map brw).flatten := by
    have e4 : ((s.map brw).flatten).length = s.length := by rw [flatten_len (brws_len _)]; simp
    simp only [putAt,List.map_append,List.flatten_append]
    rw [Nat.zero_add,Nat.mul_one,List.take_left' e4,List.drop_of_length_le (by rw [List.length_append,e4]; simp [brw])]
    simp [brw]
   rw [e3,if_pos rfl]
   have hne : H.length + j ≠ wi := by
    intro e
    rw [e] at g1
    unfold Wr at w1
    rw [g1] at w1; cases w1
   have hlt := lt_of_get g1
   refine ⟨⟨L.set j (.arr ((s ++ [1]).map brw).flatten),.slice (.new (H.length + j)) 0 (s ++ [0]).length 1 none,by rw [hG,set_app],?_,⟨brws_len _,.inr (.inr ⟨j,by simp,by simp,?_⟩)⟩⟩,hf⟩
   ·show _ = _
    rw [get_set_ne hne]; exact w1
   ·rw [hG,List.length_append] at hlt
    exact get_set (by omega)
  ·intro q c hq hc
   have hc1 := k1 q c hq hc
   rw [get_set_ne (by intro e; rw [e] at g1; rw [g1] at hc1; cases hc1)]; exact hc1
end
end Go.Am
namespace Go.Am
open Go
section
variable {B : Base} {n : Nat} {H G : Heap} {Q : AV → Heap → Prop} {wi : Nat} {s t : List UInt8} {wr : Bool} {K : Heap → Prop} {e : Ent}
theorem Sv.entry (h : Sv B H G wi s wr) (hsz : s.length ≤ 400000000000) (hk : ∀ G',Sv B H G' wi (s ++ if entR e = true then entB e else []) (wr || !entR e) → Vk wi G G' → K G') : Cl B 27 [wp wi,.agg e.row] G fun v G' => pLive v fun _ => K G' := by
 refine f27_in fun n cl hn hcl hH hA => op_box rfl rfl ?_
 subst hcl
 have g0 : (G ++ [AObj.var e.row])[G.length]? = some (.var e.row) := by rw [get_app0]; rfl
 have hwi := h.lt
 rw [peekVN g0 (n := 4) rfl,ob_some]
 refine f59_ok (tyK_bool ?_)
 refine (h.pre (M := [.var e.row])).must fun G1 h1 k1 => ?_
 have g1 := k1 G.length _ (by omega) g0
 obtain ⟨b,p,hb,ld⟩ := h1.load
 refine op_nil (op_fldP ?_)
 rw [p,ob_some]
 refine Sl.live hb _ ?_
 rw [peekVN g1 (n := 4) rfl,ob_some]
 have rest : ∀ (v : AV) (M : Heap) (t : List UInt8),Bs B (G1 ++ M) v t → t.length ≤ 2000 → t = (if entR e = true then entB e else []) →
   aop B E0 (G1 ++ M) (fun v18 H19 => (wp wi : AV) = wp wi ∧ aop B E0 H19 (fun v20 _ => aop B E0 H19 (fun v21 _ => aop B E0 H19 (fun _ H23 => tidyK n (fun v G' => pLive v fun _ => K G') (.tuple []) H23) (.st 1 (.const v21) (.const v18))) (.fieldPtr 0 (.const v20))) (.nilCheck (.const (wp wi)))) (.append 1 1 (.const b) (.const v)) := fun v M t hv htl ht => by
  have := ld M v t (fun H23 => tidyK n (fun v G' => pLive v fun _ => K G') (.tuple []) H23) hv (by omega) fun G' s1 k2 _ => tidy_none (live_unit (hk G' (by rw [← ht]; exact s1) (Vk.app.trans (k1.trans k2))))
  exact aop_mono (fun v H h => ⟨rfl,h⟩) _ this
 have hconj : ∀ M : Heap,peek B (G1 ++ M) (.ptr (some (.new wi,0 + 0))) = some b := fun M => by
  obtain ⟨⟨L1,b1,hG1,hw1,_⟩,_⟩ := h1
  have e1 : b1 = b := by rw [peekV hw1 (v := b1) (i := 0 + 0) rfl] at p; cases p; rfl
  rw [← e1]; exact peekV (get_pre hw1) rfl
 refine f60_ok (fun hr v M hv => ?_) fun hr M => ?_
 ·obtain ⟨l1,l2,l3,l4⟩ := entR_len hr
  have hle : (entB e).length ≤ 2000 := by have := @entB_len e; rw [if_pos hr] at this; exact this
  refine Sl.live hv _ ⟨?_,op_fldP rfl,op_nil rfl,rfl,rfl,rest v M (entB e) hv hle (by rw [hr]; rfl)⟩
  rw [hconj,ob_some]
  exact Sl.live hb _ rfl
 ·refine live_nils _ ⟨?_,op_fldP rfl,op_nil rfl,rfl,rfl,rest .nils M [] Bs.nil (by simp) (by rw [hr]; rfl)⟩
  rw [hconj,ob_some]
  exact Sl.live hb _ rfl
theorem any_cons {α : Type} (f : α → Bool) (x : α) (l : List α) (w : Bool) : (w || (x :: l).any f) = ((w || f x) || l.any f) := by simp [Bool.or_assoc]
theorem f39_loop {α : Type} {enc : α → List UInt8} {bad : α → Bool} {l : List α} {cs : List (List AV)} {ev : AV} {C : Nat} {G0 : Heap} {base : Nat} {fv : AV} (he : Sl B H 7 ev cs) (hl : cs.length = l.length) (hsz : l.length ≤ 1000) (henc : ∀ x,x ∈ l → (enc x).length ≤ C)
  (hel : ∀ (i : Nat) (x : α) (c : List AV) (acc : List UInt8) (w : Bool) (G1 : Heap) (K' : Heap → Prop),l[i]? = some x → cs[i]? = some c → Sv B H G1 wi acc w → Vk wi G0 G1 → acc.length ≤ base + C * l.length → (∀ G',Sv B H G' wi (acc ++ enc x) (w || bad x) → Vk wi G1 G' → K' G') →
   calleeK B E0 G1 [.agg c] (fun g z => Cl B g z G1 fun v G' => pLive v fun _ => K' G') (.val (.const fv)))
  (hk : ∀ G',Sv B H G' wi (s ++ l.flatMap enc) (wr || l.any bad) → Vk wi G0 G' → K G') :
  ∀ (rest : List α) (i : Nat) (acc : List UInt8) (w : Bool) (G1 : Heap),l.drop i = rest → acc ++ rest.flatMap enc = s ++ l.flatMap enc → (w || rest.any bad) = (wr || l.any bad) → acc.length ≤ base + C * i → Sv B H G1 wi acc w → Vk wi G0 G1 →
   L39_0 B (Cl B) n fv ev (l.length : Int) (i : Int) G1 (fun v G' => pLive v fun _ => K G')
 | [],i,acc,w,G1,hd,ha,hw,hal,hG,hV => by
  have hl := drop_nil hd
  refine L39_0_in (ACall.cle B table) (bs_dec (fun h1 => by omega) fun _ => tidy_none (live_unit (hk _ ?_ hV)))
  simp only [List.flatMap_nil,List.append_nil,List.any_nil,Bool.or_false] at ha hw
  rw [← ha,← hw]; exact hG
 | x :: r,i,acc,w,G1,hd,ha,hw,hal,hG,hV => by
  obtain ⟨hget,hlt,hd'⟩ := drop_cons hd
  obtain ⟨L,rfl⟩ := hG.grown
  have hmul : C * i ≤ C * l.length := Nat.mul_le_mul_left C (Nat.le_of_lt hlt)
  obtain ⟨c,hc⟩ : ∃ c,cs[i]? = some c := ⟨_,List.getElem?_eq_getElem (by omega)⟩
  have hxl := henc x (List.mem_of_getElem? hget)
  have next : ∀ (G2 : Heap) (G' : Heap),Sv B H G' wi (acc ++ enc x) (w || bad x) → Vk wi G2 G' → Vk wi G0 G2 → L39_0 B (Cl B) n fv ev (l.length : Int) (IntKind.i64.wrap ((i : Int) + 1)) G' (fun v G' => pLive v fun _ => K G') := fun G2 G' h' k' k0 => by
   rw [w64 (n := (i : Int) + 1) (by omega)]
   refine f39_loop he hl hsz henc hel hk r (i + 1) _ _ G' hd' ?_ ?_ ?_ h' (k0.trans k')
   ·rw [← ha]; simp
   ·rw [← hw,any_cons]
   ·rw [List.length_append,Nat.mul_succ]; omega
  have hs : Sl B (H ++ L) 7 ev cs := he.pre
  refine L39_0_in (ACall.cle B table) (bs_dec (fun _ => op_idx hs (by omega) ?_) fun h1 => absurd (by omega) h1)
  have hcl := hs.1 c (List.mem_of_getElem? hc)
  rw [(hs.el hc).peekN (n := 7) hcl,ob_some]
  refine op_alloc (op_st_last rfl hcl ?_)
  rw [peekVN (n := 7) (by rw [get_app0]; rfl) hcl,ob_some]
  exact hel i x c acc w _ _ hget hc (hG.pre (M := [.var c])) (hV.trans Vk.app) (by omega) fun G' h' k' => next _ G' h' k' (hV.trans Vk.app)
theorem Sv.list39 {α : Type} {enc : α → List UInt8} {bad : α → Bool} {l : List α} {cs : List (List AV)} {ev : AV} {C : Nat} {fv : AV} {most : Int} (h : Sv B H G wi s wr) (he : Sl B H 7 ev cs) (hl : cs.length = l.length) (hsz : l.length ≤ 1000) (henc : ∀ x,x ∈ l → (enc x).length ≤ C) (hbig : s.length + 10 + C * l.length ≤ 400000000000)
  (hel : ∀ (i : Nat) (x : α) (c : List AV) (acc : List UInt8) (w : Bool) (G1 : Heap) (K' : Heap → Prop),l[i]? = some x → cs[i]? = some c → Sv B H G1 wi acc w → Vk wi G G1 → acc.length ≤ s.length + 10 + C * l.length → (∀ G',Sv B H G' wi (acc ++ enc x) (w || bad x) → Vk wi G1 G' → K' G') →
   calleeK B E0 G1 [.agg c] (fun g z => Cl B g z G1 fun v G' => pLive v fun _ => K' G') (.val (.const fv)))
  (hk : ∀ G',Sv B H G' wi ((s ++ putF l.length) ++ l.flatMap enc) ((wr || !decide ((l.length : Int) ≤ most)) || l.any bad) → Vk wi G G' → K G') :
  Cl B 39 [wp wi,ev,.int .i64 most,fv] G fun v G' => pLive v fun _ => K G' := by
 refine f39_in fun n cl hn hcl hH hA => ?_
 subst hcl
 have hlen : lenOf ev = some l.length := by have := he.len; rwa [hl] at this
 rw [hlen,ob_some]
 refine ib_le (h.must fun G1 h1 k1 => ?_)
 rw [ob_some]
 have hn0 : numOk ((l.length : Nat) : Int) = true := by simp [numOk]; omega
 refine h1.num (by omega) (by omega) fun G2 h2 k2 => ?_
 rw [hn0,Bool.not_true,Bool.or_false] at h2
 have hpl := putF_small l.length (by omega)
 rw [ob_some]
 exact f39_loop (s := s ++ putF l.length) (base := s.length + 10) (G0 := G) he hl hsz henc (fun i x c acc w G1 K' a1 a2 a3 a4 a5 => hel i x c acc w G1 K' a1 a2 a3 a4 (by omega)) hk l 0 _ _ G2 rfl rfl rfl (by rw [List.length_append]; simp; omega) h2 (k1.trans k2)
theorem f41_loop {α : Type} {enc : α → List UInt8} {bad : α → Bool} {l : List α} {cs : List (List AV)} {ev : AV} {C : Nat} {G0 : Heap} {base : Nat} {fv : AV} (he : Sl B H 3 ev cs) (hl : cs.length = l.length) (hsz : l.length ≤ 1000) (henc : ∀ x,x ∈ l → (enc x).length ≤ C)
  (hel : ∀ (i : Nat) (x : α) (c : List AV) (acc : List UInt8) (w : Bool) (G1 : Heap) (K' : Heap → Prop),l[i]? = some x → cs[i]? = some c → Sv B H G1 wi acc w → Vk wi G0 G1 → acc.length ≤ base + C * l.length → (∀ G',Sv B H G' wi (acc ++ enc x) (w || bad x) → Vk wi G1 G' → K' G') →
   calleeK B E0 G1 [.agg c] (fun g z => Cl B g z G1 fun v G' => pLive v fun _ => K' G') (.val (.const fv)))
  (hk : ∀ G',Sv B H G' wi (s ++ l.flatMap enc) (wr || l.any bad) → Vk wi G0 G' → K G') :
  ∀ (rest : List α) (i : Nat) (acc : List UInt8) (w : Bool) (G1 : Heap),l.drop i = rest → acc ++ rest.flatMap enc = s ++ l.flatMap enc → (w || rest.any bad) = (wr || l.any bad) → acc.length ≤ base + C * i → Sv B H G1 wi acc w → Vk wi G0 G1 →
   L41_0 B (Cl B) n fv ev (l.length : Int) (i : Int) G1 (fun v G' => pLive v fun _ => K G')
 | [],i,acc,w,G1,hd,ha,hw,hal,hG,hV => by
  have hl := drop_nil hd
  refine L41_0_in (ACall.cle B table) (bs_dec (fun h1 => by omega) fun _ => tidy_none (live_unit (hk _ ?_ hV)))
  simp only [List.flatMap_nil,List.append_nil,List.any_nil,Bool.or_false] at ha hw
  rw [← ha,← hw]; exact hG
 | x :: r,i,acc,w,G1,hd,ha,hw,hal,hG,hV => by
  obtain ⟨hget,hlt,hd'⟩ := drop_cons hd
  obtain ⟨L,rfl⟩ := hG.grown
  have hmul : C * i ≤ C * l.length := Nat.mul_le_mul_left C (Nat.le_of_lt hlt)
  obtain ⟨c,hc⟩ : ∃ c,cs[i]? = some c := ⟨_,List.getElem?_eq_getElem (by omega)⟩
  have hxl := henc x (List.mem_of_getElem? hget)
  have next : ∀ (G2 : Heap) (G' : Heap),Sv B H G' wi (acc ++ enc x) (w || bad x) → Vk wi G2 G' → Vk wi G0 G2 → L41_0 B (Cl B) n fv ev (l.length : Int) (IntKind.i64.wrap ((i : Int) + 1)) G' (fun v G' => pLive v fun _ => K G') := fun G2 G' h' k' k0 => by
   rw [w64 (n := (i : Int) + 1) (by omega)]
   refine f41_loop he hl hsz henc hel hk r (i + 1) _ _ G' hd' ?_ ?_ ?_ h' (k0.trans k')
   ·rw [← ha]; simp
   ·rw [← hw,any_cons]
   ·rw [List.length_append,Nat.mul_succ]; omega
  have hs : Sl B (H ++ L) 3 ev cs := he.pre
  refine L41_0_in (ACall.cle B table) (bs_dec (fun _ => op_idx hs (by omega) ?_) fun h1 => absurd (by omega) h1)
  have hcl := hs.1 c (List.mem_of_getElem? hc)
  rw [(hs.el hc).peekN (n := 3) hcl,ob_some]
  refine op_alloc (op_st_last rfl hcl ?_)
  rw [peekVN (n := 3) (by rw [get_app0]; rfl) hcl,ob_some]
  exact hel i x c acc w _ _ hget hc (hG.pre (M := [.var c])) (hV.trans Vk.app) (by omega) fun G' h' k' => next _ G' h' k' (hV.trans Vk.app)
theorem Sv.list41 {α : Type} {enc : α → List UInt8} {bad : α → Bool} {l : List α} {cs : List (List AV)} {ev : AV} {C : Nat} {fv : AV} {most : Int} (h : Sv B H G wi s wr) (he : Sl B H 3 ev cs) (hl : cs.length = l.length) (hsz : l.length ≤ 1000) (henc : ∀ x,x ∈ l → (enc x).length ≤ C) (hbig : s.length + 10 + C * l.length ≤ 400000000000)
  (hel : ∀ (i : Nat) (x : α) (c : List AV) (acc : List UInt8) (w : Bool) (G1 : Heap) (K' : Heap → Prop),l[i]? = some x → cs[i]? = some c → Sv B H G1 wi acc w → Vk wi G G1 → acc.length ≤ s.length + 10 + C * l.length → (∀ G',Sv B H G' wi (acc ++ enc x) (w || bad x) → Vk wi G1 G' → K' G') →
   calleeK B E0 G1 [.agg c] (fun g z => Cl B g z G1 fun v G' => pLive v fun _ => K' G') (.val (.const fv)))
  (hk : ∀ G',Sv B H G' wi ((s ++ putF l.length) ++ l.flatMap enc) ((wr || !decide ((l.length : Int) ≤ most)) || l.any bad) → Vk wi G G' → K G') :
  Cl B 41 [wp wi,ev,.int .i64 most,fv] G fun v G' => pLive v fun _ => K G' := by
 refine f41_in fun n cl hn hcl hH hA => ?_
 subst hcl
 have hlen : lenOf ev = some l.length := by have := he.len; rwa [hl] at this
 rw [hlen,ob_some]
 refine ib_le (h.must fun G1 h1 k1 => ?_)
 rw [ob_some]
 have hn0 : numOk ((l.length : Nat) : Int) = true := by simp [numOk]; omega
 refine h1.num (by omega) (by omega) fun G2 h2 k2 => ?_
 rw [hn0,Bool.not_true,Bool.or_false] at h2
 have hpl := putF_small l.length (by omega)
 rw [ob_some]
 exact f41_loop (s := s ++ putF l.length) (base := s.length + 10) (G0 := G) he hl hsz henc (fun i x c acc w G1 K' a1 a2 a3 a4 a5 => hel i x c acc w G1 K' a1 a2 a3 a4 (by omega)) hk l 0 _ _ G2 rfl rfl rfl (by rw [List.length_append]; simp; omega) h2 (k1.trans k2)
theorem f72_loop {α : Type} {enc : α → List UInt8} {bad : α → Bool} {l : List α} {cs : List (List AV)} {ev : AV} {C : Nat} {G0 : Heap} {base : Nat} {fv : AV} (he : Sl B H 32 ev cs) (hl : cs.length = l.length) (hsz : l.length ≤ 1000) (henc : ∀ x,x ∈ l → (enc x).length ≤ C)
  (hel : ∀ (i : Nat) (x : α) (c : List AV) (acc : List UInt8) (w : Bool) (G1 : Heap) (K' : Heap → Prop),l[i]? = some x → cs[i]? = some c → Sv B H G1 wi acc w → Vk wi G0 G1 → acc.length ≤ base + C * l.length → (∀ G',Sv B H G' wi (acc ++ enc x) (w || bad x) → Vk wi G1 G' → K' G') →
   calleeK B E0 G1 [.agg c] (fun g z => Cl B g z G1 fun v G' => pLive v fun _ => K' G') (.val (.const fv)))
  (hk : ∀ G',Sv B H G' wi (s ++ l.flatMap enc) (wr || l.any bad) → Vk wi G0 G' → K G') :
  ∀ (rest : List α) (i : Nat) (acc : List UInt8) (w : Bool) (G1 : Heap),l.drop i = rest → acc ++ rest.flatMap enc = s ++ l.flatMap enc → (w || rest.any bad) = (wr || l.any bad) → acc.length ≤ base + C * i → Sv B H G1 wi acc w → Vk wi G0 G1 →
   L72_0 B (Cl B) n fv ev (l.length : Int) (i : Int) G1 (fun v G' => pLive v fun _ => K G')
 | [],i,acc,w,G1,hd,ha,hw,hal,hG,hV => by
  have hl := drop_nil hd
  refine L72_0_in (ACall.cle B table) (bs_dec (fun h1 => by omega) fun _ => tidy_none (live_unit (hk _ ?_ hV)))
  simp only [List.flatMap_nil,List.append_nil,List.any_nil,Bool.or_false] at ha hw
  rw [← ha,← hw]; exact hG
 | x :: r,i,acc,w,G1,hd,ha,hw,hal,hG,hV => by
  obtain ⟨hget,hlt,hd'⟩ := drop_cons hd
  obtain ⟨L,rfl⟩ := hG.grown
  have hmul : C * i ≤ C * l.length := Nat.mul_le_mul_left C (Nat.le_of_lt hlt)
  obtain ⟨c,hc⟩ : ∃ c,cs[i]? = some c := ⟨_,List.getElem?_eq_getElem (by omega)⟩
  have hxl := henc x (List.mem_of_getElem? hget)
  have next : ∀ (G2 : Heap) (G' : Heap),Sv B H G' wi (acc ++ enc x) (w || bad x) → Vk wi G2 G' → Vk wi G0 G2 → L72_0 B (Cl B) n fv ev (l.length : Int) (IntKind.i64.wrap ((i : Int) + 1)) G' (fun v G' => pLive v fun _ => K G') := fun G2 G' h' k' k0 => by
   rw [w64 (n := (i : Int) + 1) (by omega)]
   refine f72_loop he hl hsz henc hel hk r (i + 1) _ _ G' hd' ?_ ?_ ?_ h' (k0.trans k')
   ·rw [← ha]; simp
   ·rw [← hw,any_cons]
   ·rw [List.length_append,Nat.mul_succ]; omega
  have hs : Sl B (H ++ L) 32 ev cs := he.pre
  refine L72_0_in (ACall.cle B table) (bs_dec (fun _ => op_idx hs (by omega) ?_) fun h1 => absurd (by omega) h1)
  have hcl := hs.1 c (List.mem_of_getElem? hc)
  rw [(hs.el hc).peekN (n := 32) hcl,ob_some]
  refine op_alloc (op_st_last rfl hcl ?_)
  rw [peekVN (n := 32) (by rw [get_app0]; rfl) hcl,ob_some]
  exact hel i x c acc w _ _ hget hc (hG.pre (M := [.var c])) (hV.trans Vk.app) (by omega) fun G' h' k' => next _ G' h' k' (hV.trans Vk.app)
theorem Sv.list72 {α : Type} {enc : α → List UInt8} {bad : α → Bool} {l : List α} {cs : List (List AV)} {ev : AV} {C : Nat} {fv : AV} {most : Int} (h : Sv B H G wi s wr) (he : Sl B H 32 ev cs) (hl : cs.length = l.length) (hsz : l.length ≤ 1000) (henc : ∀ x,x ∈ l → (enc x).length ≤ C) (hbig : s.length + 10 + C * l.length ≤ 400000000000)
  (hel : ∀ (i : Nat) (x : α) (c : List AV) (acc : List UInt8) (w : Bool) (G1 : Heap) (K' : Heap → Prop),l[i]? = some x → cs[i]? = some c → Sv B H G1 wi acc w → Vk wi G G1 → acc.length ≤ s.length + 10 + C * l.length → (∀ G',Sv B H G' wi (acc ++ enc x) (w || bad x) → Vk wi G1 G' → K' G') →
   calleeK B E0 G1 [.agg c] (fun g z => Cl B g z G1 fun v G' => pLive v fun _ => K' G') (.val (.const fv)))
  (hk : ∀ G',Sv B H G' wi ((s ++ putF l.length) ++ l.flatMap enc) ((wr || !decide ((l.length : Int) ≤ most)) || l.any bad) → Vk wi G G' → K G') :
  Cl B 72 [wp wi,ev,.int .i64 most,fv] G fun v G' => pLive v fun _ => K G' := by
 refine f72_in fun n cl hn hcl hH hA => ?_
 subst hcl
 have hlen : lenOf ev = some l.length := by have := he.len; rwa [hl] at this
 rw [hlen,ob_some]
 refine ib_le (h.must fun G1 h1 k1 => ?_)
 rw [ob_some]
 have hn0 : numOk ((l.length : Nat) : Int) = true := by simp [numOk]; omega
 refine h1.num (by omega) (by omega) fun G2 h2 k2 => ?_
 rw [hn0,Bool.not_true,Bool.or_false] at h2
 have hpl := putF_small l.length (by omega)
 rw [ob_some]
 exact f72_loop (s := s ++ putF l.length) (base := s.length + 10) (G0 := G) he hl hsz henc (fun i x c acc w G1 K' a1 a2 a3 a4 a5 => hel i x c acc w G1 K' a1 a2 a3 a4 (by omega)) hk l 0 _ _ G2 rfl rfl rfl (by rw [List.length_append]; simp; omega) h2 (k1.trans k2)
theorem f26_loopV {α : Type} {enc : α → List UInt8} {bad : α → Bool} {l : List α} {cs : List (List AV)} {ev : AV} {C : Nat} {G0 : Heap} {base : Nat} {fv : AV} (he : Sl B H 4 ev cs) (hl : cs.length = l.length) (hsz : l.length ≤ 1000) (henc : ∀ x,x ∈ l → (enc x).length ≤ C)
  (hel : ∀ (i : Nat) (x : α) (c : List AV) (acc : List UInt8) (w : Bool) (G1 : Heap) (K' : Heap → Prop),l[i]? = some x → cs[i]? = some c → Sv B H G1 wi acc w → Vk wi G0 G1 → acc.length ≤ base + C * l.length → (∀ G',Sv B H G' wi (acc ++ enc x) (w || bad x) → Vk wi G1 G' → K' G') →
   calleeK B E0 G1 [.agg c] (fun g z => Cl B g z G1 fun v G' => pLive v fun _ => K' G') (.val (.const fv)))
  (hk : ∀ G',Sv B H G' wi (s ++ l.flatMap enc) (wr || l.any bad) → Vk wi G0 G' → K G') :
  ∀ (rest : List α) (i : Nat) (acc : List UInt8) (w : Bool) (G1 : Heap),l.drop i = rest → acc ++ rest.flatMap enc = s ++ l.flatMap enc → (w || rest.any bad) = (wr || l.any bad) → acc.length ≤ base + C * i → Sv B H G1 wi acc w → Vk wi G0 G1 →
   L26_0 B (Cl B) n fv ev (l.length : Int) (i : Int) G1 (fun v G' => pLive v fun _ => K G')
 | [],i,acc,w,G1,hd,ha,hw,hal,hG,hV => by
  have hl := drop_nil hd
  refine L26_0_in (ACall.cle B table) (bs_dec (fun h1 => by omega) fun _ => tidy_none (live_unit (hk _ ?_ hV)))
  simp only [List.flatMap_nil,List.append_nil,List.any_nil,Bool.or_false] at ha hw
  rw [← ha,← hw]; exact hG
 | x :: r,i,acc,w,G1,hd,ha,hw,hal,hG,hV => by
  obtain ⟨hget,hlt,hd'⟩ := drop_cons hd
  obtain ⟨L,rfl⟩ := hG.grown
  have hmul : C * i ≤ C * l.length := Nat.mul_le_mul_left C (Nat.le_of_lt hlt)
  obtain ⟨c,hc⟩ : ∃ c,cs[i]? = some c := ⟨_,List.getElem?_eq_getElem (by omega)⟩
  have hxl := henc x (List.mem_of_getElem? hget)
  have next : ∀ (G2 : Heap) (G' : Heap),Sv B H G' wi (acc ++ enc x) (w || bad x) → Vk wi G2 G' → Vk wi G0 G2 → L26_0 B (Cl B) n fv ev (l.length : Int) (IntKind.i64.wrap ((i : Int) + 1)) G' (fun v G' => pLive v fun _ => K G') := fun G2 G' h' k' k0 => by
   rw [w64 (n := (i : Int) + 1) (by omega)]
   refine f26_loopV he hl hsz henc hel hk r (i + 1) _ _ G' hd' ?_ ?_ ?_ h' (k0.trans k')
   ·rw [← ha]; simp
   ·rw [← hw,any_cons]
   ·rw [List.length_append,Nat.mul_succ]; omega
  have hs : Sl B (H ++ L) 4 ev cs := he.pre
  refine L26_0_in (ACall.cle B table) (bs_dec (fun _ => op_idx hs (by omega) ?_) fun h1 => absurd (by omega) h1)
  have hcl := hs.1 c (List.mem_of_getElem? hc)
  rw [(hs.el hc).peekN (n := 4) hcl,ob_some]
  refine op_alloc (op_st_last rfl hcl ?_)
  rw [peekVN (n := 4) (by rw [get_app0]; rfl) hcl,ob_some]
  exact hel i x c acc w _ _ hget hc (hG.pre (M := [.var c])) (hV.trans Vk.app) (by omega) fun G' h' k' => next _ G' h' k' (hV.trans Vk.app)
theorem Sv.list26 {α : Type} {enc : α → List UInt8} {bad : α → Bool} {l : List α} {cs : List (List AV)} {ev : AV} {C : Nat} {fv : AV} {most : Int} (h : Sv B H G wi s wr) (he : Sl B H 4 ev cs) (hl : cs.length = l.length) (hsz : l.length ≤ 1000) (henc : ∀ x,x ∈ l → (enc x).length ≤ C) (hbig : s.length + 10 + C * l.length ≤ 400000000000)
  (hel : ∀ (i : Nat) (x : α) (c : List AV) (acc : List UInt8) (w : Bool) (G1 : Heap) (K' : Heap → Prop),l[i]? = some x → cs[i]? = some c → Sv B H G1 wi acc w → Vk wi G G1 → acc.length ≤ s.length + 10 + C * l.length → (∀ G',Sv B H G' wi (acc ++ enc x) (w || bad x) → Vk wi G1 G' → K' G') →
   calleeK B E0 G1 [.agg c] (fun g z => Cl B g z G1 fun v G' => pLive v fun _ => K' G') (.val (.const fv)))
  (hk : ∀ G',Sv B H G' wi ((s ++ putF l.length) ++ l.flatMap enc) ((wr || !decide ((l.length : Int) ≤ most)) || l.any bad) → Vk wi G G' → K G') :
  Cl B 26 [wp wi,ev,.int .i64 most,fv] G fun v G' => pLive v fun _ => K G' := by
 refine f26_in fun n cl hn hcl hH hA => ?_
 subst hcl
 have hlen : lenOf ev = some l.length := by have := he.len; rwa [hl] at this
 rw [hlen,ob_some]
 refine ib_le (h.must fun G1 h1 k1 => ?_)
 rw [ob_some]
 have hn0 : numOk ((l.length : Nat) : Int) = true := by simp [numOk]; omega
 refine h1.num (by omega) (by omega) fun G2 h2 k2 => ?_
 rw [hn0,Bool.not_true,Bool.or_false] at h2
 have hpl := putF_small l.length (by omega)
 rw [ob_some]
 exact f26_loopV (s := s ++ putF l.length) (base := s.length + 10) (G0 := G) he hl hsz henc (fun i x c acc w G1 K' a1 a2 a3 a4 a5 => hel i x c acc w G1 K' a1 a2 a3 a4 (by omega)) hk l 0 _ _ G2 rfl rfl rfl (by rw [List.length_append]; simp; omega) h2 (k1.trans k2)
theorem f43_loop {α : Type} {enc : α → List UInt8} {bad : α → Bool} {l : List α} {us : List AV} {ev : AV} {C : Nat} {G0 : Heap} {base : Nat} {fv : AV} (he : Sl B H 1 ev (us.map fun u => [u])) (hl : us.length = l.length) (hsz : l.length ≤ 1000) (henc : ∀ x,x ∈ l → (enc x).length ≤ C) (hlv : ∀ (i : Nat) (u : AV),us[i]? = some u → ∀ K : AV → Prop,K u → pLive u K)
  (hel : ∀ (i : Nat) (x : α) (u : AV) (acc : List UInt8) (w : Bool) (G1 : Heap) (K' : Heap → Prop),l[i]? = some x → us[i]? = some u → Sv B H G1 wi acc w → Vk wi G0 G1 → acc.length ≤ base + C * l.length → (∀ G',Sv B H G' wi (acc ++ enc x) (w || bad x) → Vk wi G1 G' → K' G') →
   calleeK B E0 G1 [u] (fun g z => Cl B g z G1 fun v G' => pLive v fun _ => K' G') (.val (.const fv)))
  (hk : ∀ G',Sv B H G' wi (s ++ l.flatMap enc) (wr || l.any bad) → Vk wi G0 G' → K G') :
  ∀ (rest : List α) (i : Nat) (acc : List UInt8) (w : Bool) (G1 : Heap),l.drop i = rest → acc ++ rest.flatMap enc = s ++ l.flatMap enc → (w || rest.any bad) = (wr || l.any bad) → acc.length ≤ base + C * i → Sv B H G1 wi acc w → Vk wi G0 G1 →
   L43_0 B (Cl B) n fv ev (l.length : Int) (i : Int) G1 (fun v G' => pLive v fun _ => K G')
 | [],i,acc,w,G1,hd,ha,hw,hal,hG,hV => by
  have hl := drop_nil hd
  refine L43_0_in (ACall.cle B table) (bs_dec (fun h1 => by omega) fun _ => tidy_none (live_unit (hk _ ?_ hV)))
  simp only [List.flatMap_nil,List.append_nil,List.any_nil,Bool.or_false] at ha hw
  rw [← ha,← hw]; exact hG
 | x :: r,i,acc,w,G1,hd,ha,hw,hal,hG,hV => by
  obtain ⟨hget,hlt,hd'⟩ := drop_cons hd
  obtain ⟨L,rfl⟩ := hG.grown
  have hmul : C * i ≤ C * l.length := Nat.mul_le_mul_left C (Nat.le_of_lt hlt)
  obtain ⟨u,hc⟩ : ∃ u,us[i]? = some u := ⟨_,List.getElem?_eq_getElem (by omega)⟩
  have hxl := henc x (List.mem_of_getElem? hget)
  have next : ∀ (G2 : Heap) (G' : Heap),Sv B H G' wi (acc ++ enc x) (w || bad x) → Vk wi G2 G' → Vk wi G0 G2 → L43_0 B (Cl B) n fv ev (l.length : Int) (IntKind.i64.wrap ((i : Int) + 1)) G' (fun v G' => pLive v fun _ => K G') := fun G2 G' h' k' k0 => by
   rw [w64 (n := (i : Int) + 1) (by omega)]
   refine f43_loop he hl hsz henc hlv hel hk r (i + 1) _ _ G' hd' ?_ ?_ ?_ h' (k0.trans k')
   ·rw [← ha]; simp
   ·rw [← hw,any_cons]
   ·rw [List.length_append,Nat.mul_succ]; omega
  have hs : Sl B (H ++ L) 1 ev (us.map fun u => [u]) := he.pre
  have hc1 : (us.map fun u => [u])[i]? = some [u] := by rw [List.getElem?_map,hc]; rfl
  refine L43_0_in (ACall.cle B table) (bs_dec (fun _ => op_idx hs (by rw [List.length_map]; omega) ?_) fun h1 => absurd (by omega) h1)
  rw [(hs.el hc1).peek0 (v := u) rfl,ob_some]
  refine hlv i u hc _ ?_
  exact hel i x u acc w _ _ hget hc hG hV (by omega) fun G' h' k' => next _ G' h' k' hV
theorem Sv.list43 {α : Type} {enc : α → List UInt8} {bad : α → Bool} {l : List α} {us : List AV} {ev : AV} {C : Nat} {fv : AV} {most : Int} (h : Sv B H G wi s wr) (he : Sl B H 1 ev (us.map fun u => [u])) (hl : us.length = l.length) (hsz : l.length ≤ 1000) (henc : ∀ x,x ∈ l → (enc x).length ≤ C) (hbig : s.length + 10 + C * l.length ≤ 400000000000) (hlv : ∀ (i : Nat) (u : AV),us[i]? = some u → ∀ K : AV → Prop,K u → pLive u K)
  (hel : ∀ (i : Nat) (x : α) (u : AV) (acc : List UInt8) (w : Bool) (G1 : Heap) (K' : Heap → Prop),l[i]? = some x → us[i]? = some u → Sv B H G1 wi acc w → Vk wi G G1 → acc.length ≤ s.length + 10 + C * l.length → (∀ G',Sv B H G' wi (acc ++ enc x) (w || bad x) → Vk wi G1 G' → K' G') →
   calleeK B E0 G1 [u] (fun g z => Cl B g z G1 fun v G' => pLive v fun _ => K' G') (.val (.const fv)))
  (hk : ∀ G',Sv B H G' wi ((s ++ putF l.length) ++ l.flatMap enc) ((wr || !decide ((l.length : Int) ≤ most)) || l.any bad) → Vk wi G G' → K G') :
  Cl B 43 [wp wi,ev,.int .i64 most,fv] G fun v G' => pLive v fun _ => K G' := by
 refine f43_in fun n cl hn hcl hH hA => ?_
 subst hcl
 have hlen : lenOf ev = some l.length := by have := he.len; rwa [List.length_map,hl] at this
 rw [hlen,ob_some]
 refine ib_le (h.must fun G1 h1 k1 => ?_)
 rw [ob_some]
 have hn0 : numOk ((l.length : Nat) : Int) = true := by simp [numOk]; omega
 refine h1.num (by omega) (by omega) fun G2 h2 k2 => ?_
 rw [hn0,Bool.not_true,Bool.or_false] at h2
 have hpl := putF_small l.length (by omega)
 rw [ob_some]
 exact f43_loop (s := s ++ putF l.length) (base := s.length + 10) (G0 := G) he hl hsz henc hlv (fun i x c acc w G1 K' a1 a2 a3 a4 a5 => hel i x c acc w G1 K' a1 a2 a3 a4 (by omega)) hk l 0 _ _ G2 rfl rfl rfl (by rw [List.length_append]; simp; omega) h2 (k1.trans k2)
theorem f70_loop {α : Type} {enc : α → List UInt8} {bad : α → Bool} {l : List α} {us : List AV} {ev : AV} {C : Nat} {G0 : Heap} {base : Nat} {fv : AV} (he : Sl B H 1 ev (us.map fun u => [u])) (hl : us.length = l.length) (hsz : l.length ≤ 1000) (henc : ∀ x,x ∈ l → (enc x).length ≤ C) (hlv : ∀ (i : Nat) (u : AV),us[i]? = some u → ∀ K : AV → Prop,K u → pLive u K)
  (hel : ∀ (i : Nat) (x : α) (u : AV) (acc : List UInt8) (w : Bool) (G1 : Heap) (K' : Heap → Prop),l[i]? = some x → us[i]? = some u → Sv B H G1 wi acc w → Vk wi G0 G1 → acc.length ≤ base + C * l.length → (∀ G',Sv B H G' wi (acc ++ enc x) (w || bad x) → Vk wi G1 G' → K' G') →
   calleeK B E0 G1 [u] (fun g z => Cl B g z G1 fun v G' => pLive v fun _ => K' G') (.val (.const fv)))
  (hk : ∀ G',Sv B H G' wi (s ++ l.flatMap enc) (wr || l.any bad) → Vk wi G0 G' → K G') :
  ∀ (rest : List α) (i : Nat) (acc : List UInt8) (w : Bool) (G1 : Heap),l.drop i = rest → acc ++ rest.flatMap enc = s ++ l.flatMap enc → (w || rest.any bad) = (wr || l.any bad) → acc.length ≤ base + C * i → Sv B H G1 wi acc w → Vk wi G0 G1 →
   L70_0 B (Cl B) n fv ev (l.length : Int) (i : Int) G1 (fun v G' => pLive v fun _ => K G')
 | [],i,acc,w,G1,hd,ha,hw,hal,hG,hV => by
  have hl := drop_nil hd
  refine L70_0_in (ACall.cle B table) (bs_dec (fun h1 => by omega) fun _ => tidy_none (live_unit (hk _ ?_ hV)))
  simp only [List.flatMap_nil,List.append_nil,List.any_nil,Bool.or_false] at ha hw
  rw [← ha,← hw]; exact hG
 | x :: r,i,acc,w,G1,hd,ha,hw,hal,hG,hV => by
  obtain ⟨hget,hlt,hd'⟩ := drop_cons hd
  obtain ⟨L,rfl⟩ := hG.grown
  have hmul : C * i ≤ C * l.length := Nat.mul_le_mul_left C (Nat.le_of_lt hlt)
  obtain ⟨u,hc⟩ : ∃ u,us[i]? = some u := ⟨_,List.getElem?_eq_getElem (by omega)⟩
  have hxl := henc x (List.mem_of_getElem? hget)
  have next : ∀ (G2 : Heap) (G' : Heap),Sv B H G' wi (acc ++ enc x) (w || bad x) → Vk wi G2 G' → Vk wi G0 G2 → L70_0 B (Cl B) n fv ev (l.length : Int) (IntKind.i64.wrap ((i : Int) + 1)) G' (fun v G' => pLive v fun _ => K G') := fun G2 G' h' k' k0 => by
   rw [w64 (n := (i : Int) + 1) (by omega)]
   refine f70_loop he hl hsz henc hlv hel hk r (i + 1) _ _ G' hd' ?_ ?_ ?_ h' (k0.trans k')
   ·rw [← ha]; simp
   ·rw [← hw,any_cons]
   ·rw [List.length_append,Nat.mul_succ]; omega
  have hs : Sl B (H ++ L) 1 ev (us.map fun u => [u]) := he.pre
  have hc1 : (us.map fun u => [u])[i]? = some [u] := by rw [List.getElem?_map,hc]; rfl
  refine L70_0_in (ACall.cle B table) (bs_dec (fun _ => op_idx hs (by rw [List.length_map]; omega) ?_) fun h1 => absurd (by omega) h1)
  rw [(hs.el hc1).peek0 (v := u) rfl,ob_some]
  refine hlv i u hc _ ?_
  exact hel i x u acc w _ _ hget hc hG hV (by omega) fun G' h' k' => next _ G' h' k' hV
theorem Sv.list70 {α : Type} {enc : α → List UInt8} {bad : α → Bool} {l : List α} {us : List AV} {ev : AV} {C : Nat} {fv : AV} {most : Int} (h : Sv B H G wi s wr) (he : Sl B H 1 ev (us.map fun u => [u])) (hl : us.length = l.length) (hsz : l.length ≤ 1000) (henc : ∀ x,x ∈ l → (enc x).length ≤ C) (hbig : s.length + 10 + C * l.length ≤ 400000000000) (hlv : ∀ (i : Nat) (u : AV),us[i]? = some u → ∀ K : AV → Prop,K u → pLive u K)
  (hel : ∀ (i : Nat) (x : α) (u : AV) (acc : List UInt8) (w : Bool) (G1 : Heap) (K' : Heap → Prop),l[i]? = some x → us[i]? = some u → Sv B H G1 wi acc w → Vk wi G G1 → acc.length ≤ s.length + 10 + C * l.length → (∀ G',Sv B H G' wi (acc ++ enc x) (w || bad x) → Vk wi G1 G' → K' G') →
   calleeK B E0 G1 [u] (fun g z => Cl B g z G1 fun v G' => pLive v fun _ => K' G') (.val (.const fv)))
  (hk : ∀ G',Sv B H G' wi ((s ++ putF l.length) ++ l.flatMap enc) ((wr || !decide ((l.length : Int) ≤ most)) || l.any bad) → Vk wi G G' → K G') :
  Cl B 70 [wp wi,ev,.int .i64 most,fv] G fun v G' => pLive v fun _ => K G' := by
 refine f70_in fun n cl hn hcl hH hA => ?_
 subst hcl
 have hlen : lenOf ev = some l.length := by have := he.len; rwa [List.length_map,hl] at this
 rw [hlen,ob_some]
 refine ib_le (h.must fun G1 h1 k1 => ?_)
 rw [ob_some]
 have hn0 : numOk ((l.length : Nat) : Int) = true := by simp [numOk]; omega
 refine h1.num (by omega) (by omega) fun G2 h2 k2 => ?_
 rw [hn0,Bool.not_true,Bool.or_false] at h2
 have hpl := putF_small l.length (by omega)
 rw [ob_some]
 exact f70_loop (s := s ++ putF l.length) (base := s.length + 10) (G0 := G) he hl hsz henc hlv (fun i x c acc w G1 K' a1 a2 a3 a4 a5 => hel i x c acc w G1 K' a1 a2 a3 a4 (by omega)) hk l 0 _ _ G2 rfl rfl rfl (by rw [List.length_append]; simp; omega) h2 (k1.trans k2)
end
end Go.Am
namespace Go.Am
open Go
structure Opn where
 at_ : Int
 leaf : List UInt8
 path : List (List UInt8)
deriving DecidableEq
structure Pnt where
 btw : Bool
 a : Opn
 b : Opn
deriving DecidableEq
structure Spn where
 frm : Int
 leaves : List (List UInt8)
 path : List (List UInt8)
deriving DecidableEq
def F2 {α β : Type} (R : α → β → Prop) (l : List α) (m : List β) : Prop := l.length = m.length ∧ ∀ (i : Nat) (x : α) (y : β),l[i]? = some x → m[i]? = some y → R x y
theorem F2.nil {α β : Type} {R : α → β → Prop} : F2 R [] [] := ⟨rfl,fun i x y h => by simp at h⟩
theorem F2.mono {α β : Type} {R R' : α → β → Prop} (hR : ∀ x y,R x y → R' x y) {l : List α} {m : List β} (h : F2 R l m) : F2 R' l m := ⟨h.1,fun i x y h1 h2 => hR _ _ (h.2 i x y h1 h2)⟩
section
variable (B : Base) (H : Heap)
def PathR (v : AV) (l : List (List UInt8)) : Prop := Sl B H 32 v (l.map dg)
def OpR (c : List AV) (o : Opn) : Prop := ∃ lv pv,c = [.int .i64 o.at_,lv,pv] ∧ Bs B H lv o.leaf ∧ PathR B H pv o.path
def PtR (c : List AV) (p : Pnt) : Prop := ∃ ca cb,c = .bool p.btw :: (ca ++ cb) ∧ OpR B H ca p.a ∧ OpR B H cb p.b
def LvR (v : AV) (l : List (List UInt8)) : Prop := ∃ us,Sl B H 1 v (us.map fun u => [u]) ∧ F2 (Bs B H) us l
def SnR (c : List AV) (x : Spn) : Prop := ∃ lv pv,c = [.int .i64 x.frm,lv,pv] ∧ LvR B H lv x.leaves ∧ PathR B H pv x.path
def EsR (v : AV) (l : List Ent) : Prop := Sl B H 4 v (l.map Ent.row)
def PtsR (v : AV) (l : List Pnt) : Prop := ∃ cs,Sl B H 7 v cs ∧ F2 (PtR B H) cs l
def SnsR (v : AV) (l : List Spn) : Prop := ∃ cs,Sl B H 3 v cs ∧ F2 (SnR B H) cs l
def RowsR (v : AV) (l : List (List Ent)) : Prop := ∃ us,Sl B H 1 v (us.map fun u => [u]) ∧ F2 (EsR B H) us l
end
section
variable {B : Base} {n : Nat} {H G L : Heap} {Q : AV → Heap → Prop} {wi : Nat} {s t : List UInt8} {wr : Bool} {K : Heap → Prop}
theorem PathR.pre {v : AV} {l : List (List UInt8)} (h : PathR B H v l) : PathR B (H ++ L) v l := Sl.pre h
theorem OpR.pre {c : List AV} {o : Opn} (h : OpR B H c o) : OpR B (H ++ L) c o := by
 obtain ⟨lv,pv,e,h1,h2⟩ := h
 exact ⟨lv,pv,e,h1.pre,h2.pre⟩
theorem PtR.pre {c : List AV} {o : Pnt} (h : PtR B H c o) : PtR B (H ++ L) c o := by
 obtain ⟨ca,cb,e,h1,h2⟩ := h
 exact ⟨ca,cb,e,h1.pre,h2.pre⟩
theorem LvR.pre {v : AV} {l : List (List UInt8)} (h : LvR B H v l) : LvR B (H ++ L) v l := by
 obtain ⟨us,h1,h2⟩ := h
 exact ⟨us,h1.pre,h2.mono fun _ _ h => h.pre⟩
theorem SnR.pre {c : List AV} {o : Spn} (h : SnR B H c o) : SnR B (H ++ L) c o := by
 obtain ⟨ca,cb,e,h1,h2⟩ := h
 exact ⟨ca,cb,e,h1.pre,h2.pre⟩
theorem EsR.pre {v : AV} {l : List Ent} (h : EsR B H v l) : EsR B (H ++ L) v l := Sl.pre h
theorem PtsR.pre {v : AV} {l : List Pnt} (h : PtsR B H v l) : PtsR B (H ++ L) v l := by
 obtain ⟨us,h1,h2⟩ := h
 exact ⟨us,h1.pre,h2.mono fun _ _ h => h.pre⟩
theorem SnsR.pre {v : AV} {l : List Spn} (h : SnsR B H v l) : SnsR B (H ++ L) v l := by
 obtain ⟨us,h1,h2⟩ := h
 exact ⟨us,h1.pre,h2.mono fun _ _ h => h.pre⟩
theorem RowsR.pre {v : AV} {l : List (List Ent)} (h : RowsR B H v l) : RowsR B (H ++ L) v l := by
 obtain ⟨us,h1,h2⟩ := h
 exact ⟨us,h1.pre,h2.mono fun _ _ h => h.pre⟩
def pathB (l : List (List UInt8)) : List UInt8 := putF l.length ++ l.flatMap fun d => d
def opB (o : Opn) : List UInt8 := putF o.at_.toNat ++ ((putF o.leaf.length ++ o.leaf) ++ pathB o.path)
def opW (o : Opn) : Bool := !numOk o.at_ || !decide ((o.path.length : Int) ≤ 64)
def noneB (o : Opn) : Bool := o.at_ == 0 && (decide (o.leaf = []) && decide (o.path = []))
def ptB (p : Pnt) : List UInt8 := [if p.btw then 1 else 0] ++ (opB p.a ++ if p.btw then opB p.b else [])
def ptW (p : Pnt) : Bool := opW p.a || if p.btw then opW p.b else !noneB p.b
def leafB (t : List UInt8) : List UInt8 := putF t.length ++ t
def spB (x : Spn) : List UInt8 := putF x.frm.toNat ++ ((putF x.leaves.length ++ x.leaves.flatMap leafB) ++ pathB x.path)
def spW (x : Spn) : Bool := (!numOk x.frm || !decide ((x.leaves.length : Int) ≤ 64)) || !decide ((x.path.length : Int) ≤ 64)
def entO (e : Ent) : List UInt8 := if entR e = true then entB e else []
def rowB (l : List Ent) : List UInt8 := putF l.length ++ l.flatMap entO
def rowW (l : List Ent) : Bool := !decide ((l.length : Int) ≤ 64) || l.any fun e => !entR e
def OnOk (o : Opn) : Prop := o.at_ ≤ 9223372036854775807 ∧ o.leaf.length ≤ 1000000 ∧ o.path.length ≤ 100 ∧ ∀ d,d ∈ o.path → d.length = 32
def PtOk (p : Pnt) : Prop := OnOk p.a ∧ OnOk p.b
def SnOk (x : Spn) : Prop := x.frm ≤ 9223372036854775807 ∧ x.leaves.length ≤ 100 ∧ (∀ t,t ∈ x.leaves → t.length ≤ 1000000) ∧ x.path.length ≤ 100 ∧ ∀ d,d ∈ x.path → d.length = 32
theorem flatMap_le {α : Type} {f : α → List UInt8} {C : Nat} : ∀ {l : List α},(∀ x,x ∈ l → (f x).length ≤ C) → (l.flatMap f).length ≤ C * l.length
 | [],_ => by simp
 | x :: l,h => by
  have h1 := h x (List.mem_cons_self ..)
  have h2 := flatMap_le (l := l) fun y hy => h y (List.mem_cons_of_mem _ hy)
  rw [List.flatMap_cons,List.length_append,List.length_cons,Nat.mul_succ]; omega
theorem pathB_le {l : List (List UInt8)} (h : l.length ≤ 100) (hd : ∀ d,d ∈ l → d.length = 32) : (pathB l).length ≤ 3300 := by
 have h1 := flatMap_le (f := fun d : List UInt8 => d) (C := 32) fun d hd' => Nat.le_of_eq (hd d hd')
 have h2 := putF_small l.length (by omega)
 unfold pathB
 rw [List.length_append]; omega
theorem opB_le {o : Opn} (h : OnOk o) : (opB o).length ≤ 1010000 := by
 obtain ⟨h1,h2,h3,h4⟩ := h
 have a1 := putF_small o.at_.toNat (by omega)
 have a2 := putF_small o.leaf.length (by omega)
 have a3 := pathB_le h3 h4
 unfold opB
 simp only [List.length_append]; omega
theorem ptB_le {p : Pnt} (h : PtOk p) : (ptB p).length ≤ 2100000 := by
 have a1 := opB_le h.1
 have a2 := opB_le h.2
 unfold ptB
 simp only [List.length_append,List.length_singleton]
 split <;> simp <;> omega
theorem leafB_le {t : List UInt8} (h : t.length ≤ 1000000) : (leafB t).length ≤ 1000010 := by
 have a2 := putF_small t.length (by omega)
 unfold leafB
 rw [List.length_append]; omega
theorem spB_le {x : Spn} (h : SnOk x) : (spB x).length ≤ 110000000 := by
 obtain ⟨h1,h2,h3,h4,h5⟩ := h
 have a1 := putF_small x.frm.toNat (by omega)
 have a2 := putF_small x.leaves.length (by omega)
 have a3 := pathB_le h4 h5
 have a4 := flatMap_le (f := leafB) (C := 1000010) (l := x.leaves) fun t ht => leafB_le (h3 t ht)
 unfold spB
 simp only [List.length_append]; omega
theorem entO_le (e : Ent) : (entO e).length ≤ 2000 := entB_len
theorem rowB_le {l : List Ent} (h : l.length ≤ 100) : (rowB l).length ≤ 210000 := by
 have a2 := putF_small l.length (by omega)
 have a4 := flatMap_le (f := entO) (C := 2000) (l := l) fun t _ => entO_le t
 unfold rowB
 rw [List.length_append]; omega
theorem PathR.mem {v : AV} {l : List (List UInt8)} (h : PathR B H v l) : ∀ d,d ∈ l → d.length = 32 := fun d hd => by
 have := h.1 (dg d) (List.mem_map_of_mem hd)
 rwa [dg_len] at this
theorem any_false {α : Type} (l : List α) : (l.any fun _ => false) = false := by simp
theorem Sv.path {pv : AV} {l : List (List UInt8)} (h : Sv B H G wi s wr) (hp : PathR B H pv l) (hl : l.length ≤ 100) (hsz : s.length ≤ 300000000000) (hk : ∀ G',Sv B H G' wi (s ++ pathB l) (wr || !decide ((l.length : Int) ≤ 64)) → Vk wi G G' → K G') :
  Cl B 72 [wp wi,pv,.int .i64 64,.func (.func 73) [wp wi] []] G fun v G' => pLive v fun _ => K G' := by
 refine h.list72 (enc := fun d : List UInt8 => d) (bad := fun _ => false) (l := l) (C := 32) hp (List.length_map ..) (by omega) (fun d hd => Nat.le_of_eq (hp.mem d hd)) (by omega) (fun i d c acc w G1 K' hd hc h1 k1 hsz1 hk' => calleeK_val ?_) fun G' h' k' => hk G' ?_ k'
 ·rw [List.getElem?_map,hd] at hc
  cases hc
  show Cl B 73 [wp wi,.agg (dg d)] _ _
  refine h1.digest (hp.mem d (List.mem_of_getElem? hd)) (by omega) fun G' s' k' => hk' G' ?_ k'
  rw [Bool.or_false]; exact s'
 ·rw [any_false,Bool.or_false] at h'
  rw [List.append_assoc] at h'
  exact h'
theorem Sv.opening {c : List AV} {o : Opn} (h : Sv B H G wi s wr) (hc : OpR B H c o) (ho : OnOk o) (hsz : s.length ≤ 250000000000) (hk : ∀ G',Sv B H G' wi (s ++ opB o) (wr || opW o) → Vk wi G G' → K G') : Cl B 68 [wp wi,.agg c] G fun v G' => pLive v fun _ => K G' := by
 obtain ⟨lv,pv,rfl,hlv,hpv⟩ := hc
 obtain ⟨o1,o2,o3,o4⟩ := ho
 have hwi := h.lt
 refine f68_in fun n cl hn hcl hH hA => op_box rfl rfl (op_fldP ?_)
 subst hcl
 have g0 : (G ++ [AObj.var [.int .i64 o.at_,lv,pv]])[G.length]? = some (.var [.int .i64 o.at_,lv,pv]) := by rw [get_app0]; rfl
 have h0 := h.pre (M := [.var [.int .i64 o.at_,lv,pv]])
 have kk : Vk wi G (G ++ [AObj.var [.int .i64 o.at_,lv,pv]]) := Vk.app
 generalize G ++ [AObj.var [.int .i64 o.at_,lv,pv]] = G0 at g0 h0 kk
 have p1 := putF_small o.at_.toNat (by omega)
 have p2 := putF_small o.leaf.length (by omega)
 rw [peekV g0 (v := .int .i64 o.at_) rfl,ob_some,pInt_int]
 refine h0.num (by omega) o1 fun G1 h1 k1 => op_fldP ?_
 have g1 := k1 G.length _ (by omega) g0
 rw [peekV g1 (v := lv) rfl,ob_some]
 obtain ⟨L1,rfl⟩ := h1.grown
 refine Sl.live hlv _ (op_toStr hlv.pre ?_)
 refine h1.text (by rw [List.length_append]; omega) (by omega) fun G2 h2 k2 => op_fldP ?_
 have g2 := k2 G.length _ (by omega) g1
 rw [peekV g2 (v := pv) rfl,ob_some]
 refine Sl.live hpv _ (h2.path hpv o3 (by simp only [List.length_append]; omega) fun G3 h3 k3 => tidy_none (live_unit (hk G3 ?_ (kk.trans (k1.trans (k2.trans k3))))))
 have e1 : s ++ putF o.at_.toNat ++ putF o.leaf.length ++ o.leaf ++ pathB o.path = s ++ opB o := by simp [opB]
 have e2 : ((wr || !numOk o.at_) || !decide ((o.path.length : Int) ≤ 64)) = (wr || opW o) := by simp only [opW,Bool.or_assoc]
 rw [← e1,← e2]; exact h3
theorem len0 {α : Type} (l : List α) : (((l.length : Nat) : Int) == 0) = decide (l = []) := by
 cases l with
 | nil => rfl
 | cons a b => simp; omega
theorem f69_ok {c : List AV} {o : Opn} (hc : OpR B G c o) (h : Q (.bool (noneB o)) G) : Cl B 69 [.agg c] G Q := by
 obtain ⟨lv,pv,rfl,hlv,hpv⟩ := hc
 refine f69_in fun n cl hn hcl hH hA => op_box rfl rfl (op_fldP ?_)
 have g0 : (G ++ [AObj.var [.int .i64 o.at_,lv,pv]])[G.length]? = some (.var [.int .i64 o.at_,lv,pv]) := by rw [get_app0]; rfl
 have fin : ∀ b : Bool,b = noneB o → tidyK n Q (.bool b) (G ++ [AObj.var [.int .i64 o.at_,lv,pv]]) := fun b hb => by subst hb; exact tidy_drop hn hH low_bool h
 have hll : lenOf pv = some o.path.length := by have := Sl.len hpv; rwa [List.length_map] at this
 rw [peekV g0 (v := .int .i64 o.at_) rfl,ob_some,pInt_int]
 refine bs_iff.2 ⟨fun h1 => op_fldP ?_,fun h1 => fin _ (by simp only [noneB]; rw [h1]; rfl)⟩
 rw [peekV g0 (v := lv) rfl,ob_some]
 refine Sl.live hlv _ ?_
 rw [hlv.len,ob_some,len0]
 refine bs_iff.2 ⟨fun h2 => op_fldP ?_,fun h2 => fin _ (by simp only [noneB]; rw [h1,h2]; rfl)⟩
 rw [peekV g0 (v := pv) rfl,ob_some]
 refine Sl.live hpv _ ?_
 rw [hll,ob_some]
 refine ib_eqq (fin _ ?_)
 simp only [noneB]
 rw [h1,h2,len0]; rfl
theorem Sv.point {c : List AV} {p : Pnt} (h : Sv B H G wi s wr) (hc : PtR B H c p) (ho : PtOk p) (hsz : s.length ≤ 200000000000) (hk : ∀ G',Sv B H G' wi (s ++ ptB p) (wr || ptW p) → Vk wi G G' → K G') : Cl B 40 [wp wi,.agg c] G fun v G' => pLive v fun _ => K G' := by
 obtain ⟨ca,cb,rfl,ha,hb⟩ := hc
 obtain ⟨o1,o2⟩ := ho
 have hwi := h.lt
 have la : ca.length = 3 := by obtain ⟨_,_,rfl,_⟩ := ha; rfl
 have lb : cb.length = 3 := by obtain ⟨_,_,rfl,_⟩ := hb; rfl
 refine f40_in fun n cl hn hcl hH hA => op_box (n := 7) rfl (by simp [la,lb]) (op_fldP ?_)
 subst hcl
 have g0 : (G ++ [AObj.var (.bool p.btw :: (ca ++ cb))])[G.length]? = some (.var (.bool p.btw :: (ca ++ cb))) := by rw [get_app0]; rfl
 have h0 := h.pre (M := [.var (.bool p.btw :: (ca ++ cb))])
 have kk : Vk wi G (G ++ [AObj.var (.bool p.btw :: (ca ++ cb))]) := Vk.app
 generalize G ++ [AObj.var (.bool p.btw :: (ca ++ cb))] = G0 at g0 h0 kk
 have pa : ∀ {M : Heap},M[G.length]? = some (.var (.bool p.btw :: (ca ++ cb))) → peekN B M 3 (.ptr (some (.new G.length,0 + 1))) = some ca := fun {M} hM => by
  refine cellsAt_iff'.2 ⟨_,by simp only [cellsOf,hM]; rfl,by simp [la,lb],?_⟩
  simp [← la]
 have pb : ∀ {M : Heap},M[G.length]? = some (.var (.bool p.btw :: (ca ++ cb))) → peekN B M 3 (.ptr (some (.new G.length,0 + 4))) = some cb := fun {M} hM => by
  refine cellsAt_iff'.2 ⟨_,by simp only [cellsOf,hM]; rfl,by simp [la,lb],?_⟩
  have : (.bool p.btw :: (ca ++ cb)).drop (0 + 4) = cb := by
   show (ca ++ cb).drop 3 = cb
   rw [← la,List.drop_left]
  rw [this,← lb,List.take_length]
 rw [peekV g0 (v := .bool p.btw) rfl,ob_some]
 refine tyK_bool (h0.flag (by omega) fun G1 h1 k1 => op_fldP ?_)
 have g1 := k1 G.length _ (by omega) g0
 rw [pa g1,ob_some]
 refine h1.opening ha o1 (by simp; omega) fun G2 h2 k2 => op_fldP ?_
 have g2 := k2 G.length _ (by omega) g1
 have l1 := opB_le o1
 rw [peekV g2 (v := .bool p.btw) rfl,ob_some,pBool_bool]
 refine bs_iff.2 ⟨fun hbt => op_fldP ?_,fun hbt => op_fldP ?_⟩
 ·rw [pb g2,ob_some]
  refine h2.opening hb o2 (by simp only [List.length_append,List.length_singleton]; omega) fun G3 h3 k3 => tidy_none (live_unit (hk G3 ?_ (kk.trans (k1.trans (k2.trans k3)))))
  have e1 : s ++ [if p.btw then 1 else 0] ++ opB p.a ++ opB p.b = s ++ ptB p := by simp [ptB,hbt]
  have e2 : ((wr || opW p.a) || opW p.b) = (wr || ptW p) := by simp only [ptW,hbt,if_true,Bool.or_assoc]
  rw [← e1,← e2]; exact h3
 ·rw [pb g2,ob_some]
  obtain ⟨L2,hL2⟩ := h2.grown
  refine f69_ok (by rw [hL2]; exact hb.pre) (tyK_bool (h2.must fun G3 h3 k3 => tidy_none (live_unit (hk G3 ?_ (kk.trans (k1.trans (k2.trans k3)))))))
  have e1 : s ++ [if p.btw then 1 else 0] ++ opB p.a = s ++ ptB p := by simp [ptB,hbt]
  have e2 : ((wr || opW p.a) || !noneB p.b) = (wr || ptW p) := by simp only [ptW,hbt,Bool.or_assoc]; rfl
  rw [← e1,← e2]; exact h3
theorem Sv.span {c : List AV} {x : Spn} (h : Sv B H G wi s wr) (hc : SnR B H c x) (ho : SnOk x) (hsz : s.length ≤ 200000000000) (hk : ∀ G',Sv B H G' wi (s ++ spB x) (wr || spW x) → Vk wi G G' → K G') : Cl B 42 [wp wi,.agg c] G fun v G' => pLive v fun _ => K G' := by
 obtain ⟨lv,pv,rfl,⟨us,hus,hlv⟩,hpv⟩ := hc
 obtain ⟨o1,o2,o3,o4,o5⟩ := ho
 have hwi := h.lt
 refine f42_in fun n cl hn hcl hH hA => op_box (c := [wp wi]) rfl rfl (op_box rfl rfl ?_)
 subst hcl
 have gw : (G ++ [AObj.var [wp wi]] ++ [AObj.var [.int .i64 x.frm,lv,pv]])[G.length]? = some (.var [wp wi]) := by rw [List.append_assoc,get_app0]; rfl
 have hl1 : (G ++ [AObj.var [wp wi]]).length = G.length + 1 := by simp
 have g0 : (G ++ [AObj.var [wp wi]] ++ [AObj.var [.int .i64 x.frm,lv,pv]])[G.length + 1]? = some (.var [.int .i64 x.frm,lv,pv]) := by rw [List.append_assoc,get_app]; rfl
 have h0 := (h.pre (M := [.var [wp wi]])).pre (M := [.var [.int .i64 x.frm,lv,pv]])
 have kk : Vk wi G (G ++ [AObj.var [wp wi]] ++ [AObj.var [.int .i64 x.frm,lv,pv]]) := Vk.app.trans Vk.app
 rw [hl1]
 generalize G ++ [AObj.var [wp wi]] ++ [AObj.var [.int .i64 x.frm,lv,pv]] = G0 at g0 gw h0 kk
 have p1 := putF_small x.frm.toNat (by omega)
 have p2 := putF_small x.leaves.length (by omega)
 have pw : ∀ {M : Heap},M[G.length]? = some (.var [wp wi]) → peek B M (.ptr (some (.new G.length,0))) = some (wp wi) := fun hM => peekV hM rfl
 have lw : ∀ {K : AV → Prop},K (wp wi) → pLive (wp wi) K := fun h => h
 rw [pw gw,ob_some]
 refine lw (op_fldP ?_)
 rw [peekV g0 (v := .int .i64 x.frm) rfl,ob_some,pInt_int]
 refine h0.num (by omega) o1 fun G1 h1 k1 => ?_
 have g1 := k1 (G.length + 1) _ (by omega) g0
 have gw1 := k1 G.length _ (by omega) gw
 rw [pw gw1,ob_some]
 refine lw (op_fldP ?_)
 rw [peekV g1 (v := lv) rfl,ob_some]
 refine Sl.live hus _ ?_
 have a4 := flatMap_le (f := leafB) (C := 1000010) (l := x.leaves) fun t ht => leafB_le (o3 t ht)
 refine h1.list70 (enc := leafB) (bad := fun _ => false) (l := x.leaves) (C := 1000010) hus hlv.1 (by omega) (fun t ht => leafB_le (o3 t ht)) (by rw [List.length_append]; omega) (fun i u hu K hK => ?_) (fun i t u acc w G2 K' ht hu h2 k2 hsz2 hk' => ?_) fun G2 h2 k2 => ?_
 ·have hi : i < us.length := by
   rcases Nat.lt_or_ge i us.length with h' | h'
   ·exact h'
   ·rw [List.getElem?_eq_none h'] at hu; cases hu
  rw [hlv.1] at hi
  exact Sl.live (hlv.2 i u _ hu (List.getElem?_eq_getElem hi)) K hK
 ·have gw2 := k2 G.length _ (by omega) gw1
  refine calleeK_val ?_
  have hu' := hlv.2 i u t hu ht
  have ht' := o3 t (List.mem_of_getElem? ht)
  show Cl B 71 [u,.ptr (some (.new G.length,0))] _ _
  refine f71_in fun n cl hn hcl hH hA => ?_
  subst hcl
  rw [pw gw2,ob_some]
  obtain ⟨L2,hL2⟩ := h2.grown
  refine lw (op_toStr (by rw [hL2]; exact hu'.pre) (h2.text (by rw [List.length_append] at hsz2; omega) (by omega) fun G3 h3 k3 => tidy_none (live_unit (hk' G3 ?_ k3))))
  rw [Bool.or_false,leafB,← List.append_assoc]; exact h3
 ·have g2 := k2 (G.length + 1) _ (by omega) g1
  have gw2 := k2 G.length _ (by omega) gw1
  rw [pw gw2,ob_some]
  refine lw (op_fldP ?_)
  rw [peekV g2 (v := pv) rfl,ob_some]
  refine Sl.live hpv _ ?_
  rw [ob_some]
  refine lw ((h2.path hpv o4 (by simp only [List.length_append]; omega) fun G3 h3 k3 => tidy_none (live_unit (hk G3 ?_ (kk.trans (k1.trans (k2.trans k3)))))))
  have e1 : s ++ putF x.frm.toNat ++ putF x.leaves.length ++ x.leaves.flatMap leafB ++ pathB x.path = s ++ spB x := by simp [spB]
  have e2 : ((((wr || !numOk x.frm) || !decide ((x.leaves.length : Int) ≤ 64)) || x.leaves.any fun _ => false) || !decide ((x.path.length : Int) ≤ 64)) = (wr || spW x) := by rw [any_false]; simp only [spW,Bool.or_assoc,Bool.false_or]
  rw [← e1,← e2]; exact h3
theorem Sv.row {u : AV} {l : List Ent} (h : Sv B H G wi s wr) (hu : EsR B H u l) (hl : l.length ≤ 100) (hsz : s.length ≤ 200000000000) (hk : ∀ G',Sv B H G' wi (s ++ rowB l) (wr || rowW l) → Vk wi G G' → K G') : Cl B 44 [wp wi,u] G fun v G' => pLive v fun _ => K G' := by
 refine f44_in fun n cl hn hcl hH hA => ?_
 subst hcl
 refine h.list26 (enc := entO) (bad := fun e => !entR e) (l := l) (C := 2000) hu (List.length_map ..) (by omega) (fun e _ => entO_le e) (by omega) (fun i e c acc w G1 K' he hc h1 k1 hsz1 hk' => calleeK_val ?_) fun G' h' k' => tidy_none (live_unit (hk G' ?_ k'))
 ·rw [List.getElem?_map,he] at hc
  cases hc
  show Cl B 27 [wp wi,.agg e.row] _ _
  exact h1.entry (by omega) hk'
 ·have e1 : s ++ putF l.length ++ l.flatMap entO = s ++ rowB l := by simp [rowB]
  have e2 : ((wr || !decide ((l.length : Int) ≤ 64)) || l.any fun e => !entR e) = (wr || rowW l) := by simp only [rowW,Bool.or_assoc]
  rw [← e1,← e2]; exact h'
end
end Go.Am
namespace Go.Am
open Go
structure Rpl where
 err : Int
 last : Int
 epoch : Int
 psum : List UInt8
 pts : List Pnt
 ssum : List UInt8
 sns : List Spn
 sum : List UInt8
 rows : List (List Ent)
deriving DecidableEq
def RpR (B : Base) (H : Heap) (c : List AV) (r : Rpl) : Prop := ∃ v3 v4 v5 v6 v7 v8,c = [.int .i64 r.err,.int .i64 r.last,.int .i64 r.epoch,v3,v4,v5,v6,v7,v8] ∧
 Bs B H v3 r.psum ∧ PtsR B H v4 r.pts ∧ Bs B H v5 r.ssum ∧ SnsR B H v6 r.sns ∧ Bs B H v7 r.sum ∧ RowsR B H v8 r.rows
def RpOk (r : Rpl) : Prop := r.err ≤ 9223372036854775807 ∧ r.last ≤ 9223372036854775807 ∧ r.epoch ≤ 9223372036854775807 ∧ r.psum.length ≤ 1000000 ∧ (r.pts.length ≤ 600 ∧ ∀ p,p ∈ r.pts → PtOk p) ∧
 r.ssum.length ≤ 1000000 ∧ (r.sns.length ≤ 600 ∧ ∀ p,p ∈ r.sns → SnOk p) ∧ r.sum.length ≤ 1000000 ∧ (r.rows.length ≤ 600 ∧ ∀ l,l ∈ r.rows → l.length ≤ 100)
def b1 (k : Int) (r : Rpl) : Bool := r.last != 0 && !(k == 1 || k == 6)
def b2 (k : Int) (r : Rpl) : Bool := r.epoch != 0 && (!(k == 4 || k == 5) && k != 6)
def b3 (k : Int) (r : Rpl) : Bool := !decide (r.sum = []) && !(k == 4 || k == 5)
def b4 (k : Int) (r : Rpl) : Bool := !decide (r.rows = []) && k != 5
def b5 (k : Int) (r : Rpl) : Bool := (!decide (r.psum = []) || !decide (r.pts = [])) && k != 2
def b6 (k : Int) (r : Rpl) : Bool := (!decide (r.ssum = []) || !decide (r.sns = [])) && k != 3
def emptyB (k : Int) (r : Rpl) : Bool := !(b1 k r) && (!(b2 k r) && (!(b3 k r) && (!(b4 k r) && (!(b5 k r) && !(b6 k r)))))
def bodyB (k : Int) (r : Rpl) : List UInt8 :=
 if k = 1 then putF r.last.toNat else if k = 2 then leafB r.psum ++ (putF r.pts.length ++ r.pts.flatMap ptB)
 else if k = 3 then leafB r.ssum ++ (putF r.sns.length ++ r.sns.flatMap spB) else if k = 4 then putF r.epoch.toNat ++ leafB r.sum
 else if k = 5 then putF r.epoch.toNat ++ (leafB r.sum ++ (putF r.rows.length ++ r.rows.flatMap rowB)) else putF r.last.toNat ++ putF r.epoch.toNat
def bodyW (k : Int) (r : Rpl) : Bool :=
 if k = 1 then !numOk r.last else if k = 2 then !decide ((r.pts.length : Int) ≤ 512) || r.pts.any ptW
 else if k = 3 then !decide ((r.sns.length : Int) ≤ 512) || r.sns.any spW else if k = 4 then !numOk r.epoch
 else if k = 5 then !numOk r.epoch || (!decide ((r.rows.length : Int) ≤ 512) || r.rows.any rowW) else !numOk r.last || !numOk r.epoch
def sayF (k : Int) (r : Rpl) : List UInt8 := putF r.err.toNat ++ if r.err = 0 then bodyB k r else []
def sayW (k : Int) (r : Rpl) : Bool := !(decide (1 ≤ k) && decide (k ≤ 6) && (decide (0 ≤ r.err) && decide (r.err ≤ 10))) || if r.err = 0 then !emptyB k r || bodyW k r else !emptyB 0 r
section
variable {B : Base} {n : Nat} {H G : Heap} {Q : AV → Heap → Prop} {r : Rpl} {s : List UInt8} {wr : Bool} {wi : Nat} {c : List AV} {K : Heap → Prop}
theorem PtsR.len {v : AV} {l : List Pnt} (h : PtsR B H v l) : lenOf v = some l.length := by
 obtain ⟨cs,h1,h2⟩ := h
 rw [h1.len,h2.1]
theorem SnsR.len {v : AV} {l : List Spn} (h : SnsR B H v l) : lenOf v = some l.length := by
 obtain ⟨cs,h1,h2⟩ := h
 rw [h1.len,h2.1]
theorem RowsR.len {v : AV} {l : List (List Ent)} (h : RowsR B H v l) : lenOf v = some l.length := by
 obtain ⟨cs,h1,h2⟩ := h
 rw [h1.len,List.length_map,h2.1]
theorem PtsR.live {v : AV} {l : List Pnt} (h : PtsR B H v l) {K : AV → Prop} (hk : K v) : pLive v K := by
 obtain ⟨cs,h1,h2⟩ := h
 exact h1.live K hk
theorem SnsR.live {v : AV} {l : List Spn} (h : SnsR B H v l) {K : AV → Prop} (hk : K v) : pLive v K := by
 obtain ⟨cs,h1,h2⟩ := h
 exact h1.live K hk
theorem RowsR.live {v : AV} {l : List (List Ent)} (h : RowsR B H v l) {K : AV → Prop} (hk : K v) : pLive v K := by
 obtain ⟨cs,h1,h2⟩ := h
 exact h1.live K hk
theorem pos0 {α : Type} (l : List α) : decide (((l.length : Nat) : Int) > 0) = !decide (l = []) := by
 cases l with
 | nil => rfl
 | cons a b => simp
theorem pos2 {α β : Type} (l : List α) (m : List β) (hl : l.length ≤ 100000000) (hm : m.length ≤ 100000000) : decide (IntKind.i64.wrap (((l.length : Nat) : Int) + ((m.length : Nat) : Int)) > 0) = (!decide (l = []) || !decide (m = [])) := by
 rw [w64 (by omega)]
 cases l with
 | nil => cases m with
  | nil => rfl
  | cons a b => simp
 | cons a b => simp; omega
theorem f38_ok {kind : Int} (hr : RpR B H c r) (ho : RpOk r) (h : Q (.bool (emptyB kind r)) H) : Cl B 38 [.int .i64 kind,.agg c] H Q := by
 obtain ⟨v3,v4,v5,v6,v7,v8,rfl,r3,r4,r5,r6,r7,r8⟩ := hr
 obtain ⟨o1,o2,o3,o4,⟨o5,_⟩,o6,⟨o7,_⟩,o8,⟨o9,_⟩⟩ := ho
 refine f38_in fun n cl hn hcl hH hA => op_box rfl rfl ?_
 generalize hrow : [.int .i64 r.err,.int .i64 r.last,.int .i64 r.epoch,v3,v4,v5,v6,v7,v8] = row
 have p : ∀ {i : Nat} {v : AV},row[i]? = some v → peek B (H ++ [AObj.var row]) (.ptr (some (.new H.length,i))) = some v := fun {i v} hv => peekV (c := row) (by rw [get_app0]; rfl) hv
 have fin : ∀ b : Bool,b = emptyB kind r → tidyK n Q (.bool b) (H ++ [.var row]) := fun b hb => by subst hb; exact tidy_drop hn hH low_bool h
 have e1 : row[0 + 1]? = some (.int .i64 r.last) := by rw [← hrow]; rfl
 have e2 : row[0 + 2]? = some (.int .i64 r.epoch) := by rw [← hrow]; rfl
 have e3 : row[0 + 3 + 0]? = some v3 := by rw [← hrow]; rfl
 have e4 : row[0 + 3 + 1]? = some v4 := by rw [← hrow]; rfl
 have e5 : row[0 + 5 + 0]? = some v5 := by rw [← hrow]; rfl
 have e6 : row[0 + 5 + 1]? = some v6 := by rw [← hrow]; rfl
 have e7 : row[0 + 7]? = some v7 := by rw [← hrow]; rfl
 have e8 : row[0 + 8]? = some v8 := by rw [← hrow]; rfl
 clear hrow
 generalize H ++ [AObj.var row] = G at p fin
 have j4 : ∀ b : Bool,(b1 kind r = false ∧ b2 kind r = false ∧ b3 kind r = false ∧ b4 kind r = false ∧ b5 kind r = false) → b = b6 kind r → J38_4 B cl n (.bool b) G Q := fun b ⟨h1,h2,h3,h4,h5⟩ hb => by
  refine J38_4_in ?_
  rw [pBool_bool]
  cases b with
  | true => rw [if_pos rfl]; exact fin false (by simp only [emptyB,h1,h2,h3,h4,h5,← hb]; rfl)
  | false => rw [if_neg (by decide)]; exact J38_6_in (fin true (by simp only [emptyB,h1,h2,h3,h4,h5,← hb]; rfl))
 have j3 : ∀ b : Bool,(b1 kind r = false ∧ b2 kind r = false ∧ b3 kind r = false ∧ b4 kind r = false) → b = b5 kind r → J38_3 B cl n kind (.ptr (some (.new H.length,0))) (.bool b) G Q := fun b ⟨h1,h2,h3,h4⟩ hb => by
  refine J38_3_in ?_
  rw [pBool_bool]
  cases b with
  | true =>
   rw [if_pos rfl]
   refine J38_4_in ?_
   rw [pBool_bool,if_pos rfl]
   exact fin false (by simp only [emptyB,h1,h2,h3,h4,← hb]; rfl)
  | false =>
   rw [if_neg (by decide)]
   refine op_fldP (op_fldP ?_)
   rw [p e5,ob_some]
   refine Sl.live r5 _ ?_
   rw [r5.len,ob_some]
   refine op_fldP (op_fldP ?_)
   rw [p e6,ob_some]
   refine r6.live ?_
   rw [r6.len,ob_some,pos2 _ _ (by omega) (by omega)]
   refine bs_iff.2 ⟨fun hp => ib_neq (j4 _ ⟨h1,h2,h3,h4,hb.symm⟩ (by simp only [b6,hp,Bool.true_and])),fun hp => j4 _ ⟨h1,h2,h3,h4,hb.symm⟩ (by simp only [b6,hp,Bool.false_and])⟩
 have j5f : (b1 kind r = false ∧ b2 kind r = false ∧ b3 kind r = false ∧ b4 kind r = false) → J38_5 B cl n kind (.ptr (some (.new H.length,0))) (.bool false) G Q := fun hh => by
  refine J38_5_in ?_
  rw [pBool_bool,if_neg (by simp)]
  refine op_fldP (op_fldP ?_)
  rw [p e3,ob_some]
  refine Sl.live r3 _ ?_
  rw [r3.len,ob_some]
  refine op_fldP (op_fldP ?_)
  rw [p e4,ob_some]
  refine r4.live ?_
  rw [r4.len,ob_some,pos2 _ _ (by omega) (by omega)]
  refine bs_iff.2 ⟨fun hp => ib_neq (j3 _ hh (by simp only [b5,hp,Bool.true_and])),fun hp => j3 _ hh (by simp only [b5,hp,Bool.false_and])⟩
 have j5t : emptyB kind r = false → J38_5 B cl n kind (.ptr (some (.new H.length,0))) (.bool true) G Q := fun he => by
  refine J38_5_in ?_
  rw [pBool_bool,if_pos rfl]
  exact fin false he.symm
 have j0 : ∀ b : Bool,(b1 kind r = false ∧ b2 kind r = false) → b = b3 kind r → J38_0 B cl n kind (.ptr (some (.new H.length,0))) (.bool b) G Q := fun b ⟨h1,h2⟩ hb => by
  refine J38_0_in ?_
  rw [pBool_bool]
  cases b with
  | true => rw [if_pos rfl]; exact j5t (by simp only [emptyB,h1,h2,← hb]; rfl)
  | false =>
   have fin4 : ∀ c : Bool,c = b4 kind r → J38_5 B cl n kind (.ptr (some (.new H.length,0))) (.bool c) G Q := fun c hc => by
    cases c with
    | true => exact j5t (by simp only [emptyB,h1,h2,← hb,← hc]; rfl)
    | false => exact j5f ⟨h1,h2,hb.symm,hc.symm⟩
   rw [if_neg (by decide)]
   refine op_fldP ?_
   rw [p e8,ob_some]
   refine r8.live ?_
   rw [r8.len,ob_some,pos0]
   refine bs_iff.2 ⟨fun hp => ib_neq (fin4 _ (by simp only [b4,hp,Bool.true_and])),fun hp => fin4 _ (by simp only [b4,hp,Bool.false_and])⟩
 have j1 : ∀ m : Bool,m = (kind == 4 || kind == 5) → ∀ b : Bool,b1 kind r = false → b = b2 kind r → J38_1 B cl n kind (.ptr (some (.new H.length,0))) (.bool m) (.bool b) G Q := fun m hm b h1 hb => by
  refine J38_1_in ?_
  rw [pBool_bool]
  cases b with
  | true => rw [if_pos rfl]; exact j5t (by simp only [emptyB,h1,← hb]; rfl)
  | false =>
   rw [if_neg (by decide)]
   refine op_fldP ?_
   rw [p e7,ob_some]
   refine Sl.live r7 _ ?_
   rw [r7.len,ob_some,pos0]
   refine bs_iff.2 ⟨fun hp => op_notB (j0 _ ⟨h1,hb.symm⟩ (by simp only [b3,hp,Bool.true_and,hm])),fun hp => j0 _ ⟨h1,hb.symm⟩ (by simp only [b3,hp,Bool.false_and])⟩
 have j2 : ∀ m : Bool,m = (kind == 4 || kind == 5) → ∀ b : Bool,b = b1 kind r → J38_2 B cl n kind (.ptr (some (.new H.length,0))) (.bool m) (.bool b) G Q := fun m hm b hb => by
  refine J38_2_in ?_
  rw [pBool_bool]
  cases b with
  | true => rw [if_pos rfl]; exact j5t (by simp only [emptyB,← hb]; rfl)
  | false =>
   rw [if_neg (by decide)]
   refine op_fldP ?_
   rw [p e2,ob_some,pInt_int]
   refine bs_iff.2 ⟨fun h1 => ?_,fun h1 => j1 m hm false hb.symm (by simp only [b2,h1,Bool.false_and])⟩
   rw [pBool_bool]
   refine bs_iff.2 ⟨fun h2 => j1 m hm false hb.symm (by simp only [b2]; rw [← hm,h2]; simp),fun h2 => ?_⟩
   exact ib_neq (j1 m hm _ hb.symm (by simp only [b2]; rw [← hm,h1,h2]; simp))
 have j7 : ∀ m : Bool,m = (kind == 4 || kind == 5) → ∀ u : Bool,u = (kind == 1 || kind == 6) → J38_7 B cl n kind (.ptr (some (.new H.length,0))) (.bool u) (.bool m) G Q := fun m hm u hu => by
  refine J38_7_in (op_fldP ?_)
  rw [p e1,ob_some,pInt_int]
  refine bs_iff.2 ⟨fun h1 => op_notB (j2 m hm _ (by simp only [b1]; rw [h1,← hu]; rfl)),fun h1 => j2 m hm false (by simp only [b1]; rw [h1]; rfl)⟩
 have j8 : ∀ u : Bool,u = (kind == 1 || kind == 6) → J38_8 B cl n kind (.ptr (some (.new H.length,0))) (.bool u) G Q := fun u hu => by
  refine J38_8_in (bs_iff.2 ⟨fun h1 => j7 true (by rw [h1]; rfl) u hu,fun h1 => ib_eqq (j7 _ (by rw [h1]; rfl) u hu)⟩)
 refine J38_9_in (bs_iff.2 ⟨fun h1 => j8 true (by rw [h1]; rfl),fun h1 => ib_eqq (j8 _ (by rw [h1]; rfl))⟩)
end
end Go.Am
namespace Go.Am
open Go
section
variable {B : Base} {n : Nat} {H G : Heap} {Q : AV → Heap → Prop} {r : Rpl} {s : List UInt8} {wr : Bool} {wi : Nat} {c : List AV} {K : Heap → Prop}
theorem f17_done (h : Sv B H G wi s wr) (h1 : wr = true → ∀ L,Q (.tuple [.nils,.int .i64 1]) (H ++ L)) (h2 : wr = false → ∀ v L,BsC B (H ++ L) v s → Q (.tuple [v,.int .i64 0]) (H ++ L)) : J17_12 B (Cl B) n (wp wi) G Q := by
 obtain ⟨L,hL⟩ := h.grown
 subst hL
 refine J17_12_in (h.done (fun e => ?_) fun e v hv => ?_)
 ·exact op_ext2 (fun K hK => hK) (tidy_none (h1 e L))
 ·exact op_ext2 (fun K hK => Sl.live hv.bs K hK) (tidy_none (h2 e v L hv))
theorem f17_body {kind : Int} (h : Sv B H G wi s wr) (hr : RpR B H c r) (ho : RpOk r) (hx : H.length < wi) (g : G[H.length]? = some (.var c)) (hk : 1 ≤ kind ∧ kind ≤ 6) (hs : s.length ≤ 100)
  (h1 : (wr || bodyW kind r) = true → ∀ L,Q (.tuple [.nils,.int .i64 1]) (H ++ L))
  (h2 : (wr || bodyW kind r) = false → ∀ v L,BsC B (H ++ L) v (s ++ bodyB kind r) → Q (.tuple [v,.int .i64 0]) (H ++ L)) :
  J17_11 B (Cl B) n (wp H.length) (wp wi) kind G Q := by
 obtain ⟨v3,v4,v5,v6,v7,v8,rfl,r3,r4,r5,r6,r7,r8⟩ := hr
 obtain ⟨o1,o2,o3,o4,⟨o5,q5⟩,o6,⟨o7,q7⟩,o8,⟨o9,q9⟩⟩ := ho
 have k6 : kind = 1 ∨ kind = 2 ∨ kind = 3 ∨ kind = 4 ∨ kind = 5 ∨ kind = 6 := by omega
 have pl : (putF r.last.toNat).length ≤ 10 := putF_small _ (by omega)
 have pe : (putF r.epoch.toNat).length ≤ 10 := putF_small _ (by omega)
 have p3 : (putF r.psum.length).length ≤ 10 := putF_small _ (by omega)
 have p5 : (putF r.ssum.length).length ≤ 10 := putF_small _ (by omega)
 have p7 : (putF r.sum.length).length ≤ 10 := putF_small _ (by omega)
 refine J17_11_in ?_
 rcases k6 with rfl | rfl | rfl | rfl | rfl | rfl
 ·refine ib_eq_yes rfl (J17_10_in ?_)
  rw [pBool_bool,if_pos rfl]
  refine op_fldP ?_
  rw [peekV g (v := .int .i64 r.last) rfl,ob_some,pInt_int]
  exact h.num (by omega) o2 fun G1 h' _ => f17_done h' h1 h2
 ·refine ib_eq_no (by decide) (J17_10_in ?_)
  rw [pBool_bool,if_neg (by simp)]
  refine ib_eq_yes rfl (J17_9_in ?_)
  rw [pBool_bool,if_pos rfl]
  refine op_fldP (op_fldP ?_)
  rw [peekV g (v := v3) rfl,ob_some]
  obtain ⟨L,rfl⟩ := h.grown
  refine Sl.live r3 _ (op_toStr r3.pre (h.text (by omega) (by omega) fun G1 h1' k1 => J17_2_in (op_fldP (op_fldP ?_))))
  have g1 := k1 _ _ (by omega) g
  rw [peekV g1 (v := v4) rfl,ob_some]
  refine r4.live ?_
  obtain ⟨cs,hcs,hf⟩ := r4
  refine h1'.list39 (enc := ptB) (bad := ptW) (l := r.pts) (C := 2100000) hcs hf.1 (by omega) (fun x hx' => ptB_le (q5 x hx')) (by simp only [List.length_append]; omega) (fun i x c' acc w G2 K' hx' hc' h2' k2 hsz hk' => calleeK_val ?_) fun G3 h3 k3 => f17_done h3 (fun e => h1 ?_) fun e v L' hv => h2 ?_ v L' ?_
  ·show Cl B 40 [wp wi,.agg c'] _ _
   exact h2'.point (hf.2 i c' x hc' hx') (q5 x (List.mem_of_getElem? hx')) (by simp only [List.length_append] at hsz; omega) hk'
  ·simpa [bodyW,Bool.or_assoc] using e
  ·simpa [bodyW,Bool.or_assoc] using e
  ·simpa [bodyB,leafB] using hv
 ·refine ib_eq_no (by decide) (J17_10_in ?_)
  rw [pBool_bool,if_neg (by simp)]
  refine ib_eq_no (by decide) (J17_9_in ?_)
  rw [pBool_bool,if_neg (by simp)]
  refine ib_eq_yes rfl (J17_8_in ?_)
  rw [pBool_bool,if_pos rfl]
  refine op_fldP (op_fldP ?_)
  rw [peekV g (v := v5) rfl,ob_some]
  obtain ⟨L,rfl⟩ := h.grown
  refine Sl.live r5 _ (op_toStr r5.pre (h.text (by omega) (by omega) fun G1 h1' k1 => J17_3_in (op_fldP (op_fldP ?_))))
  have g1 := k1 _ _ (by omega) g
  rw [peekV g1 (v := v6) rfl,ob_some]
  refine r6.live ?_
  obtain ⟨cs,hcs,hf⟩ := r6
  refine h1'.list41 (enc := spB) (bad := spW) (l := r.sns) (C := 110000000) hcs hf.1 (by omega) (fun x hx' => spB_le (q7 x hx')) (by simp only [List.length_append]; omega) (fun i x c' acc w G2 K' hx' hc' h2' k2 hsz hk' => calleeK_val ?_) fun G3 h3 k3 => f17_done h3 (fun e => h1 ?_) fun e v L' hv => h2 ?_ v L' ?_
  ·show Cl B 42 [wp wi,.agg c'] _ _
   exact h2'.span (hf.2 i c' x hc' hx') (q7 x (List.mem_of_getElem? hx')) (by simp only [List.length_append] at hsz; omega) hk'
  ·simpa [bodyW,Bool.or_assoc] using e
  ·simpa [bodyW,Bool.or_assoc] using e
  ·simpa [bodyB,leafB] using hv
 ·refine ib_eq_no (by decide) (J17_10_in ?_)
  rw [pBool_bool,if_neg (by simp)]
  refine ib_eq_no (by decide) (J17_9_in ?_)
  rw [pBool_bool,if_neg (by simp)]
  refine ib_eq_no (by decide) (J17_8_in ?_)
  rw [pBool_bool,if_neg (by simp)]
  refine ib_eq_yes rfl (J17_7_in ?_)
  rw [pBool_bool,if_pos rfl]
  refine op_fldP ?_
  rw [peekV g (v := .int .i64 r.epoch) rfl,ob_some,pInt_int]
  refine h.num (by omega) o3 fun G1 h1' k1 => op_fldP ?_
  have g1 := k1 _ _ (by omega) g
  rw [peekV g1 (v := v7) rfl,ob_some]
  obtain ⟨L,rfl⟩ := h1'.grown
  refine Sl.live r7 _ (op_toStr r7.pre (h1'.text (by rw [List.length_append]; omega) (by omega) fun G2 h3 k3 => f17_done h3 h1 fun e => ?_))
  have := h2 e
  simpa [bodyB,leafB] using this
 ·refine ib_eq_no (by decide) (J17_10_in ?_)
  rw [pBool_bool,if_neg (by simp)]
  refine ib_eq_no (by decide) (J17_9_in ?_)
  rw [pBool_bool,if_neg (by simp)]
  refine ib_eq_no (by decide) (J17_8_in ?_)
  rw [pBool_bool,if_neg (by simp)]
  refine ib_eq_no (by decide) (J17_7_in ?_)
  rw [pBool_bool,if_neg (by simp)]
  refine ib_eq_yes rfl (J17_6_in ?_)
  rw [pBool_bool,if_pos rfl]
  refine op_fldP ?_
  rw [peekV g (v := .int .i64 r.epoch) rfl,ob_some,pInt_int]
  refine h.num (by omega) o3 fun G1 h1' k1 => J17_5_in (op_fldP ?_)
  have g1 := k1 _ _ (by omega) g
  rw [peekV g1 (v := v7) rfl,ob_some]
  obtain ⟨L,rfl⟩ := h1'.grown
  refine Sl.live r7 _ (op_toStr r7.pre (h1'.text (by rw [List.length_append]; omega) (by omega) fun G2 h2' k2 => J17_4_in (op_fldP ?_)))
  have g2 := k2 _ _ (by omega) g1
  rw [peekV g2 (v := v8) rfl,ob_some]
  refine r8.live ?_
  obtain ⟨us,hus,hf⟩ := r8
  refine h2'.list43 (enc := rowB) (bad := rowW) (l := r.rows) (C := 210000) hus hf.1 (by omega) (fun x hx' => rowB_le (q9 x hx')) (by simp only [List.length_append]; omega) (fun i u hu K hK => ?_) (fun i x u acc w G2 K' hx' hc' h3' k3 hsz hk' => calleeK_val ?_) fun G3 h3 k3 => f17_done h3 (fun e => h1 ?_) fun e v L' hv => h2 ?_ v L' ?_
  ·have hi : i < us.length := by
    rcases Nat.lt_or_ge i us.length with h' | h'
    ·exact h'
    ·rw [List.getElem?_eq_none h'] at hu; cases hu
   rw [hf.1] at hi
   exact Sl.live (hf.2 i u _ hu (List.getElem?_eq_getElem hi)) K hK
  ·show Cl B 44 [wp wi,u] _ _
   exact h3'.row (hf.2 i u x hc' hx') (q9 x (List.mem_of_getElem? hx')) (by simp only [List.length_append] at hsz; omega) hk'
  ·simpa [bodyW,Bool.or_assoc] using e
  ·simpa [bodyW,Bool.or_assoc] using e
  ·simpa [bodyB,leafB] using hv
 ·refine ib_eq_no (by decide) (J17_10_in ?_)
  rw [pBool_bool,if_neg (by simp)]
  refine ib_eq_no (by decide) (J17_9_in ?_)
  rw [pBool_bool,if_neg (by simp)]
  refine ib_eq_no (by decide) (J17_8_in ?_)
  rw [pBool_bool,if_neg (by simp)]
  refine ib_eq_no (by decide) (J17_7_in ?_)
  rw [pBool_bool,if_neg (by simp)]
  refine ib_eq_no (by decide) (J17_6_in ?_)
  rw [pBool_bool,if_neg (by simp)]
  refine bs_yes (by decide) (op_fldP ?_)
  rw [peekV g (v := .int .i64 r.last) rfl,ob_some,pInt_int]
  refine h.num (by omega) o2 fun G1 h1' k1 => op_fldP ?_
  have g1 := k1 _ _ (by omega) g
  rw [peekV g1 (v := .int .i64 r.epoch) rfl,ob_some,pInt_int]
  refine h1'.num (by rw [List.length_append]; omega) o3 fun G2 h3 k3 => f17_done h3 (fun e => h1 (by simpa [bodyW,Bool.or_assoc] using e)) fun e => ?_
  have := h2 (by simpa [bodyW,Bool.or_assoc] using e)
  simpa [bodyB] using this
theorem f17_ok {kind : Int} (hr : RpR B H c r) (ho : RpOk r)
  (h1 : sayW kind r = true → ∀ L,Q (.tuple [.nils,.int .i64 1]) (H ++ L)) (h2 : sayW kind r = false → ∀ v L,BsC B (H ++ L) v (sayF kind r) → Q (.tuple [v,.int .i64 0]) (H ++ L)) : Cl B 17 [.int .i64 kind,.agg c] H Q := by
 have hc9 : c.length = 9 := by obtain ⟨_,_,_,_,_,_,rfl,_⟩ := hr; rfl
 have c0 : c[0 + 0]? = some (.int .i64 r.err) := by obtain ⟨_,_,_,_,_,_,rfl,_⟩ := hr; rfl
 have hex := ho.1
 refine f17_in fun n cl hn hcl hH hA => op_box (n := 9) rfl hc9 (J17_18_in ?_)
 subst hcl
 have g0 : (H ++ [AObj.var c])[H.length]? = some (.var c) := by rw [get_app0]; rfl
 have bad : (1 ≤ kind ∧ kind ≤ 6 ∧ 0 ≤ r.err ∧ r.err ≤ 10 → False) → J17_0 B (Cl B) n kind (wp H.length) (.bool true) (H ++ [.var c]) Q := fun hb => by
  refine J17_0_in ?_
  rw [pBool_bool,if_pos rfl]
  refine tidy_none (h1 ?_ _)
  have : (decide (1 ≤ kind) && decide (kind ≤ 6) && (decide (0 ≤ r.err) && decide (r.err ≤ 10))) = false := by
   cases hd : (decide (1 ≤ kind) && decide (kind ≤ 6) && (decide (0 ≤ r.err) && decide (r.err ≤ 10))) with
   | false => rfl
   | true => simp only [Bool.and_eq_true,decide_eq_true_eq] at hd; exact (hb ⟨hd.1.1,hd.1.2,hd.2.1,hd.2.2⟩).elim
  simp only [sayW,this]; rfl
 refine bs_dec (fun _ => bad fun hh => by omega) fun k1 => bs_dec (fun _ => bad fun hh => by omega) fun k2 => op_fldP ?_
 rw [peekV g0 c0,ob_some,pInt_int]
 refine bs_dec (fun _ => bad fun hh => by omega) fun k3 => op_fldP ?_
 rw [peekV g0 c0,ob_some,pInt_int]
 by_cases k4 : r.err > 10
 ·exact ib_gt_yes k4 (bad fun hh => by omega)
 refine ib_gt_no k4 (J17_0_in ?_)
 rw [pBool_bool,if_neg (by simp)]
 have hg : (decide (1 ≤ kind) && decide (kind ≤ 6) && (decide (0 ≤ r.err) && decide (r.err ≤ 10))) = true := by
  simp only [Bool.and_eq_true,decide_eq_true_eq]; omega
 simp only [sayW,hg,Bool.not_true,Bool.false_or] at h1 h2
 refine J17_17_in ?_
 rw [show layParts [.nils,(.bool false)] [] = some [.nils,.bool false] from rfl,ob_some]
 refine op_box rfl rfl ?_
 have e1 : (H ++ [AObj.var c]).length = H.length + 1 := by simp
 rw [e1]
 have st : Sv B H (H ++ [AObj.var c] ++ [.var [.nils,.bool false]]) (H.length + 1) [] false := by
  refine ⟨⟨[.var c,.var [.nils,.bool false]],.nils,by simp,?_,⟨fun r hr => by simp at hr,.inl ⟨rfl,rfl⟩⟩⟩,by omega⟩
  show _ = _
  rw [List.append_assoc,get_app]; rfl
 have g1 : (H ++ [AObj.var c] ++ [.var [.nils,.bool false]])[H.length]? = some (.var c) := get_pre g0
 generalize H ++ [AObj.var c] ++ [.var [.nils,.bool false]] = G at st g1
 refine J17_16_in (op_fldP ?_)
 rw [peekV g1 c0,ob_some,pInt_int]
 have hn10 : numOk r.err = true := by simp [numOk]; omega
 have pe : (putF r.err.toNat).length ≤ 10 := putF_small _ (by omega)
 refine st.num (by simp) (by omega) fun G1 st1 kk1 => J17_15_in (op_fldP ?_)
 have g2 := kk1 _ _ (by omega) g1
 rw [hn10,List.nil_append] at st1
 rw [peekV g2 c0,ob_some,pInt_int]
 obtain ⟨L1,hL1⟩ := st1.grown
 have hr1 : RpR B G1 c r := by
  obtain ⟨v3,v4,v5,v6,v7,v8,e,r3,r4,r5,r6,r7,r8⟩ := hr
  rw [hL1]
  exact ⟨v3,v4,v5,v6,v7,v8,e,r3.pre,r4.pre,r5.pre,r6.pre,r7.pre,r8.pre⟩
 by_cases h0 : r.err = 0
 ·refine ib_ne_no h0 (J17_1_in ?_)
  rw [pBool_bool,if_neg (by simp)]
  refine J17_14_in ?_
  rw [peekVN g2 (n := 9) hc9,ob_some]
  refine f38_ok hr1 ho (tyK_bool (st1.must fun G2 st2 kk2 => J17_13_in ?_))
  simp only [sayF,if_pos h0] at h1 h2
  refine f17_body st2 hr ho (by omega) (kk2 _ _ (by omega) g2) (by omega) (by omega) ?_ ?_
  ·simpa using h1
  ·simpa using h2
 ·refine ib_ne_yes h0 (J17_1_in ?_)
  rw [pBool_bool,if_pos rfl,peekVN g2 (n := 9) hc9,ob_some]
  simp only [sayF,if_neg h0,List.append_nil] at h1 h2
  refine f38_ok hr1 ho (tyK_bool (st1.must fun G2 st2 kk2 => ?_))
  obtain ⟨L,hL⟩ := st2.grown
  subst hL
  refine st2.done (fun e => ?_) fun e v hv => ?_
  ·exact op_ext2 (fun K hK => hK) (tidy_none (h1 (by simpa using e) L))
  ·exact op_ext2 (fun K hK => Sl.live hv.bs K hK) (tidy_none (h2 (by simpa using e) v L hv))
end
end Go.Am
namespace Go.Am
open Go
section
variable {B : Base} {n : Nat} {H G : Heap} {Q : AV → Heap → Prop}
theorem f20_nil (h : ∀ L,Q (.tuple [.agg [.int .i64 0,.nils,.str [],.str [],.str [],.int .i64 0],.int .i64 2]) (H ++ L)) : Cl B 20 [.nils] H Q := by
 refine f20_in fun n cl hn hcl hH hA => op_alloc (J20_10_in ?_)
 rw [show lenOf AV.nils = some 0 from rfl,ob_some]
 refine bs_yes (by decide) ?_
 rw [show layParts [(.int .i64 0),.nils,(.str []),(.str []),(.str []),(.int .i64 0)] [] = some [.int .i64 0,.nils,.str [],.str [],.str [],.int .i64 0] from rfl,ob_some]
 refine op_st_last rfl rfl ?_
 rw [peekVN (n := 6) (by rw [get_app0]; rfl) rfl,ob_some]
 exact tidy_none (h _)
def q1 : Rq := ⟨2,[],[97],[],[],0⟩
def rp3 (e l p : Int) : Rpl := ⟨e,l,p,[],[],[],[],[],[]⟩
def row3 (e l p : Int) : List AV := [.int .i64 e,.int .i64 l,.int .i64 p,.nils,.nils,.nils,.nils,.nils,.nils]
theorem sl_nil {es : Nat} : Sl B H es .nils [] := ⟨fun r hr => by simp at hr,.inl ⟨rfl,rfl⟩⟩
theorem rp3_r {e l p : Int} : RpR B H (row3 e l p) (rp3 e l p) := ⟨.nils,.nils,.nils,.nils,.nils,.nils,rfl,Bs.nil,⟨[],sl_nil,F2.nil⟩,Bs.nil,⟨[],sl_nil,F2.nil⟩,Bs.nil,⟨[],sl_nil,F2.nil⟩⟩
theorem rp3_ok {e l p : Int} (he : e ≤ 9223372036854775807) (hl : l ≤ 9223372036854775807) (hp : p ≤ 9223372036854775807) : RpOk (rp3 e l p) :=
 ⟨he,hl,hp,by simp [rp3],⟨by simp [rp3],fun p hp => by simp [rp3] at hp⟩,by simp [rp3],⟨by simp [rp3],fun p hp => by simp [rp3] at hp⟩,by simp [rp3],⟨by simp [rp3],fun p hp => by simp [rp3] at hp⟩⟩
theorem ask_q1 : akW q1 = false ∧ akF q1 = [2,1,97] := by
 refine ⟨by decide,?_⟩
 show [fb 2] ++ (putF 1 ++ [97]) = _
 unfold putF; rfl
theorem say_r1 : sayW 6 (rp3 0 3 1) = false ∧ sayF 6 (rp3 0 3 1) = [0,3,1] := by
 refine ⟨by decide,?_⟩
 show putF 0 ++ (putF 3 ++ putF 1) = _
 unfold putF; rfl
theorem say_r2 : sayW 2 (rp3 5 0 0) = false ∧ sayF 2 (rp3 5 0 0) = [5] := by
 refine ⟨by decide,?_⟩
 show putF 5 ++ [] = _
 unfold putF; rfl
theorem f11_ok (h : Q (.bool true) H) : Cl B 11 [] H Q := by
 refine f11_in fun n cl hn hcl hH hA => J11_4_in ?_
 subst hcl
 have fin : ∀ L,tidyK n Q (.bool true) (H ++ L) := fun L => tidy_drop hn hH low_bool h
 rw [show layParts _ [(0,1,.int .i64 2),(2,1,.str [97])] = some (q1.row .nils) from rfl,ob_some]
 refine g13_ok (r := q1) (ev := .nils) sl_nil (by decide) (by decide) (fun e => by rw [ask_q1.1] at e; cases e) fun _ v1 L1 hv1 => ?_
 rw [ask_q1.2] at hv1
 refine op_ext2 (fun K hK => Sl.live hv1.bs K hK) (J11_3_in ?_)
 rw [show layParts _ [(1,1,.int .i64 3),(2,1,.int .i64 1)] = some (row3 0 3 1) from rfl,ob_some]
 refine f17_ok (r := rp3 0 3 1) rp3_r (rp3_ok (by decide) (by decide) (by decide)) (fun e => by rw [say_r1.1] at e; cases e) fun _ v2 L2 hv2 => ?_
 rw [say_r1.2] at hv2
 refine op_ext2 (fun K hK => Sl.live hv2.bs K hK) (J11_2_in ?_)
 rw [show layParts _ [(0,1,.int .i64 5)] = some (row3 5 0 0) from rfl,ob_some]
 refine f17_ok (r := rp3 5 0 0) rp3_r (rp3_ok (by decide) (by decide) (by decide)) (fun e => by rw [say_r2.1] at e; cases e) fun _ v3 L3 hv3 => ?_
 rw [say_r2.2] at hv3
 refine op_ext2 (fun K hK => Sl.live hv3.bs K hK) (J11_1_in ?_)
 refine f20_nil fun L4 => ?_
 have ext : ∀ {K : AV → AV → Prop} {M : Heap} {c : List AV},K (.agg c) (.int .i64 2) → pLive (.tuple [.agg c,.int .i64 2]) fun v => aop B E0 M (fun x _ => aop B E0 M (fun y _ => K x y) (.extract (some (.int .i64)) 1 (.const v))) (.extract none 0 (.const v)) := fun {K M c} hK => by
  show pInt .i64 (.int .i64 2) fun y => K (.agg c) (.int .i64 y)
  rw [pInt_int]; exact hK
 refine ext (op_alloc (op_st_last rfl rfl (J11_0_in ?_)))
 have g1 : Bs B (H ++ L1 ++ L2 ++ L3 ++ L4 ++ [.var [.int .i64 0,.nils,.str [],.str [],.str [],.int .i64 0]]) v1 [2,1,97] := hv1.bs.pre.pre.pre.pre
 have g2 : Bs B (H ++ L1 ++ L2 ++ L3 ++ L4 ++ [.var [.int .i64 0,.nils,.str [],.str [],.str [],.int .i64 0]]) v2 [0,3,1] := hv2.bs.pre.pre.pre
 have g3 : Bs B (H ++ L1 ++ L2 ++ L3 ++ L4 ++ [.var [.int .i64 0,.nils,.str [],.str [],.str [],.int .i64 0]]) v3 [5] := hv3.bs.pre.pre
 refine op_toStr g1 ?_
 rw [pStr_str,pStr_str]
 refine bs_yes (by decide) ?_
 rw [pInt_int]
 refine bs_yes (by decide) (op_toStr g2 ?_)
 rw [pStr_str,pStr_str]
 refine bs_yes (by decide) ?_
 rw [pInt_int]
 refine bs_yes (by decide) (op_toStr g3 ?_)
 rw [pStr_str,pStr_str]
 refine bs_yes (by decide) ?_
 rw [pInt_int]
 refine bs_yes (by decide) ?_
 rw [pInt_int]
 refine ib_eq_yes rfl ?_
 have := fin (L1 ++ L2 ++ L3 ++ L4 ++ [.var [.int .i64 0,.nils,.str [],.str [],.str [],.int .i64 0]])
 simpa using this
end
end Go.Am
