/- The writer of the package wire,and the package codec: what they answer. -/
import Derived.Test.YtdkgdkifeedcnaaAgX1
import Derived.Test.YtdkgdkifeedcnaaAgX2
import Derived.Test.YtdkgdkifeedcnaaAgX3
import Derived.Test.YtdkgdkifeedcnaaAgX4
import Derived.Test.YtdkgdkifeedcnaaAgX5
import Derived.Test.YtdkgdkifeedcnaaAgX6
import Derived.Test.YtdkgdkifeedcnaaAgX7
import Derived.Test.YtdkgdkifeedcnaaAmU
namespace Go.Am
open Go
def putF (x : Nat) : List UInt8 := if x < 128 then [UInt8.ofNat x] else UInt8.ofNat (x % 128 + 128) :: putF (x / 128)
termination_by x
decreasing_by omega
theorem or_byte : ∀ y : Fin 256,bitsOp .or IntKind.u8 ((y.val : Nat) : Int) 128 = ((y.val % 128 + 128 : Nat) : Int) := by decide +kernel
theorem put_byte (x : Nat) : bitsOp .or IntKind.u8 (IntKind.u8.wrap (x : Int)) 128 = (((UInt8.ofNat (x % 128 + 128)).toNat : Nat) : Int) := by
 have e : IntKind.u8.wrap (x : Int) = ((x % 256 : Nat) : Int) := by rw [IntKind.wrap_u8]; omega
 have := or_byte ⟨x % 256,by omega⟩
 simp only at this
 rw [e,this]
 have h1 : x % 256 % 128 = x % 128 := by omega
 rw [h1,UInt8.toNat_ofNat_of_lt' (by show _ < 256; omega)]
theorem last_byte {x : Nat} (h : x < 128) : IntKind.u8.wrap (x : Int) = (((UInt8.ofNat x).toNat : Nat) : Int) := by
 rw [IntWalk.u8_in _ (by omega),UInt8.toNat_ofNat_of_lt' (by show _ < 256; omega)]
theorem putF_ne (x : Nat) : putF x ≠ [] := by
 unfold putF; split <;> simp
theorem putF_len (x : Nat) : (putF x).length ≤ x + 1 := by
 unfold putF
 split
 ·simp
 ·have := putF_len (x / 128)
  simp only [List.length_cons]; omega
termination_by x
decreasing_by omega
section
variable {B : Base} {n : Nat} {H : Heap} {Q : AV → Heap → Prop}
theorem growV_ne {k es : Nat} {rows : List (List AV)} (h : rows ≠ []) : growV k es rows = .slice (.new k) 0 rows.length es none := if_neg h
theorem growO_ne {rows : List (List AV)} (h : rows ≠ []) : growO rows = .arr rows.flatten := if_neg h
theorem Bs.set_var {k : Nat} {v : AV} {s : List UInt8} {c c' : List AV} (hb : Bs B H v s) (hg : H[k]? = some (.var c)) (hno : ∀ x ∈ c,∀ m,x ≠ .int .u8 m) (hl : c'.length = c.length) : Bs B (H.set k (.var c')) v s := by
 obtain ⟨h0,h1 | ⟨o,off,cap,rfl,hc⟩⟩ := hb
 ·exact ⟨h0,.inl h1⟩
 ·refine ⟨h0,.inr ⟨o,off,cap,rfl,?_⟩⟩
  obtain ⟨cs,h1,h2,h3⟩ := cellsAt_iff'.1 hc
  cases o with
  | base bb ss => exact cellsAt_iff'.2 ⟨cs,h1,h2,h3⟩
  | new j =>
   by_cases e : k = j
   ·subst e
    simp only [cellsOf,hg] at h1
    cases h1
    refine cellsAt_iff'.2 ⟨c',by simp only [cellsOf,get_set (lt_of_get hg)],by rw [hl]; exact h2,?_⟩
    cases s with
    | nil => simp
    | cons x r =>
     exfalso
     have hx : AV.int .u8 (x.toNat : Int) ∈ ((x :: r).map brw).flatten := by simp [brw]
     rw [h3] at hx
     exact hno _ (List.mem_of_mem_drop (List.mem_of_mem_take hx)) _ rfl
   ·refine cellsAt_iff'.2 ⟨cs,?_,h2,h3⟩
    simp only [cellsOf] at h1 ⊢
    rw [get_set_ne e]; exact h1
theorem Bs.not_int {v : AV} {s : List UInt8} (hb : Bs B H v s) (m : Int) : v ≠ .int .u8 m := by
 obtain ⟨_,⟨rfl,_⟩ | ⟨o,off,cap,rfl,_⟩⟩ := hb <;> simp
theorem Bs.set_wr {k : Nat} {v b c : AV} {wr : Bool} {wr' : AV} {s t : List UInt8} (hb : Bs B H v s) (hb2 : Bs B H b t) (hg : H[k]? = some (.var [b,.bool wr])) : Bs B (H.set k (.var [c,wr'])) v s :=
 hb.set_var hg (fun x hx m => by
  simp only [List.mem_cons,List.not_mem_nil,or_false] at hx
  rcases hx with rfl | rfl
  ·exact hb2.not_int m
  ·simp) rfl
theorem f62_end {L1 : Heap} {s : List UInt8} (hn : n = H.length) (hH : LowH n H) (hne : s ≠ []) (h : Q (growV H.length 1 (s.map brw)) (H ++ [.arr (s.map brw).flatten])) :
  tidyK n Q (.slice (.new (H.length + L1.length)) 0 (s.map brw).length 1 none) (H ++ (L1 ++ [.arr (s.map brw).flatten])) := by
 have hm : s.map brw ≠ [] := by simpa using hne
 refine .inr ⟨growV H.length 1 (s.map brw),_,⟨_,sel1 (a := L1.length) hn hH ?_ (brws_flat s),?_⟩,h⟩
 ·rw [List.getElem?_append_right (Nat.le_refl _),Nat.sub_self]; rfl
 ·rw [growV_ne hm]
  refine slice_rv ?_ (by simp)
  rw [← hn,pick_at0]
theorem f62_loop (hn : n = H.length) (hH : LowH n H) (x : Nat) : ∀ (L : Heap) (v : AV) (s : List UInt8),AppOk B H L 1 v (s.map brw) → ∀ m : Nat,x < 128 ^ m → s.length + m ≤ 1000000000000 →
  Q (growV H.length 1 ((s ++ putF x).map brw)) (H ++ [.arr ((s ++ putF x).map brw).flatten]) → L62_0 B (Cl B) n v (.int .u64 (x : Int)) (H ++ L) Q := by
 induction x using Nat.strongRecOn with
 | ind x ih =>
 intro L v s hv m hx hsz h
 refine L62_0_in (ACall.cle B table) ?_
 rw [pInt_int]
 rw [putF] at h
 refine bs_dec (fun h1 => ?_) fun h1 => ?_
 ·obtain ⟨m,rfl⟩ : ∃ m',m = m' + 1 := by
   cases m with
   | zero => simp at hx; omega
   | succ m => exact ⟨m,rfl⟩
  have hx2 : x / 128 < 128 ^ m := by
   rw [Nat.pow_succ] at hx
   omega
  rw [if_neg (by omega)] at h
  rw [pInt_int,put_byte,show layParts [(.int .u8 0)] [(0,1,.int .u8 (((UInt8.ofNat (x % 128 + 128)).toNat : Nat) : Int))] = some (brw (UInt8.ofNat (x % 128 + 128))) from rfl,ob_some]
  refine slK_in ?_
  have hv2 : AppOk B H (L ++ [.arr (brw (UInt8.ofNat (x % 128 + 128)))]) 1 v (s.map brw) := by
   obtain ⟨h0,h2 | ⟨o,off,rfl,hc⟩ | ⟨j,hne,rfl,hg⟩⟩ := hv
   ·exact ⟨h0,.inl h2⟩
   ·exact ⟨h0,.inr (.inl ⟨o,off,rfl,by rw [← List.append_assoc]; exact cellsAt_pre hc⟩)⟩
   ·exact ⟨h0,.inr (.inr ⟨j,hne,rfl,get_pre hg⟩)⟩
  rw [List.append_assoc]
  refine op_appX hv2 (rows2 := [brw (UInt8.ofNat (x % 128 + 128))]) (by rw [← List.append_assoc]; exact sl_row1 rfl) (by simp) (by simp [maxBytes]; omega) fun L1 hL1 _ => ?_
  have e : s.map brw ++ [brw (UInt8.ofNat (x % 128 + 128))] = (s ++ [UInt8.ofNat (x % 128 + 128)]).map brw := by simp
  rw [e]
  have hshr : ∀ (K : AV → Heap → Prop) (G : Heap),K (.int .u64 ((x / 128 : Nat) : Int)) G → aop B E0 G K (.shf .shr .u64 (.const (.int .u64 (x : Int))) (.const (.int .u64 7))) := fun K G hK => by
   simp only [aop,opK,Opd.look,ob_some,pInt_int,pAny_int]
   show shfK .shr .u64 (x : Int) 7 _
   unfold shfK
   rw [if_neg (by decide)]
   show K (.int .u64 ((x : Int).fdiv (2 ^ (min (7 : Int).toNat IntKind.u64.bits)))) G
   have : (2 : Int) ^ (min (7 : Int).toNat IntKind.u64.bits) = 128 := by decide
   rw [this,Int.fdiv_eq_ediv_of_nonneg _ (by decide)]
   exact hK
  refine hshr _ _ ?_
  have hgl : (L1 ++ [AObj.arr ((s ++ [UInt8.ofNat (x % 128 + 128)]).map brw).flatten])[(L ++ [AObj.arr (brw (UInt8.ofNat (x % 128 + 128)))]).length]? = some (.arr ((s ++ [UInt8.ofNat (x % 128 + 128)]).map brw).flatten) := by
   rw [← hL1,List.getElem?_append_right (Nat.le_refl _),Nat.sub_self]; rfl
  refine ih (x / 128) (by omega) _ _ (s ++ [UInt8.ofNat (x % 128 + 128)]) ⟨brws_len _,.inr (.inr ⟨_,by simp,rfl,hgl⟩)⟩ m hx2 (by simp; omega) ?_
  simpa using h
 ·rw [if_pos (by omega)] at h
  refine J62_1_in ?_
  rw [pInt_int,last_byte (by omega),show layParts [(.int .u8 0)] [(0,1,.int .u8 (((UInt8.ofNat x).toNat : Nat) : Int))] = some (brw (UInt8.ofNat x)) from rfl,ob_some]
  refine slK_in ?_
  have hv2 : AppOk B H (L ++ [.arr (brw (UInt8.ofNat x))]) 1 v (s.map brw) := by
   obtain ⟨h0,h2 | ⟨o,off,rfl,hc⟩ | ⟨j,hne,rfl,hg⟩⟩ := hv
   ·exact ⟨h0,.inl h2⟩
   ·exact ⟨h0,.inr (.inl ⟨o,off,rfl,by rw [← List.append_assoc]; exact cellsAt_pre hc⟩)⟩
   ·exact ⟨h0,.inr (.inr ⟨j,hne,rfl,get_pre hg⟩)⟩
  rw [List.append_assoc]
  refine op_appX hv2 (rows2 := [brw (UInt8.ofNat x)]) (by rw [← List.append_assoc]; exact sl_row1 rfl) (by simp) (by simp [maxBytes]; omega) fun L1 hL1 _ => ?_
  have e : s.map brw ++ [brw (UInt8.ofNat x)] = (s ++ [UInt8.ofNat x]).map brw := by simp
  rw [e,← hL1]
  exact f62_end hn hH (by simp) h
theorem f62_ok {v : AV} {s : List UInt8} {x : Nat} (hs : Bs B H v s) (hx : x < 18446744073709551616) (hsz : s.length ≤ 900000000000) (h : Q (growV H.length 1 ((s ++ putF x).map brw)) (H ++ [.arr ((s ++ putF x).map brw).flatten])) : Cl B 62 [v,.int .u64 (x : Int)] H Q := by
 refine f62_in fun n cl hn hcl hH hA => ?_
 subst hcl
 have hl : s.length = (s.map brw).length := by simp
 rw [hs.len,ob_some,ob_some,hl]
 refine AppOk.cut hs fun v' hv _ => ?_
 have := f62_loop (B := B) (Q := Q) hn hH x [] v' s hv 10 (by omega) (by omega) h
 rwa [List.append_nil] at this
def Wr (G : Heap) (k : Nat) (b : AV) (wr : Bool) : Prop := G[k]? = some (.var [b,.bool wr])
abbrev wp (k : Nat) : AV := .ptr (some (.new k,0))
theorem f25_ok {k : Nat} {b : AV} {wr so : Bool} (hw : Wr H k b wr) (h : Q (.tuple []) (H.set k (.var [b,.bool (wr || !so)]))) : Cl B 25 [wp k,.bool so] H Q := by
 refine f25_in fun n cl hn hcl hH hA => op_nil (op_fldP ?_)
 rw [peekV hw (v := .bool wr) (i := 0 + 1) rfl,ob_some,pBool_bool]
 have st : ∀ c : Bool,c = (wr || !so) → tidyK n Q (.tuple []) (H.set k (.var (putAt [b,.bool wr] (0 + 1) [.bool c]))) := fun c hc => by
  subst hc; exact tidy_none h
 refine bs_iff.2 ⟨fun h1 => op_nil (op_fldP (op_st rfl rfl hw (by simp) (st true (by rw [h1]; rfl)))),fun h1 => op_notB (op_nil (op_fldP (op_st rfl rfl hw (by simp) (st (!so) (by rw [h1]; rfl)))))⟩
theorem f30_ok {k : Nat} {b : AV} {wr : Bool} (hw : Wr H k b wr) (hb : ∀ K : AV → Prop,K b → pLive b K) (h1 : wr = true → Q (.tuple [.nils,.int .i64 1]) H) (h2 : wr = false → Q (.tuple [b,.int .i64 0]) H) : Cl B 30 [wp k] H Q := by
 refine f30_in fun n cl hn hcl hH hA => op_nil (op_fldP ?_)
 rw [peekV hw (v := .bool wr) (i := 0 + 1) rfl,ob_some,pBool_bool]
 refine bs_iff.2 ⟨fun h => tidy_none (h1 h),fun h => op_nil (op_fldP ?_)⟩
 rw [peekV hw (v := b) (i := 0 + 0) rfl,ob_some]
 exact hb _ (tidy_none (h2 h))
theorem set_pre {L : Heap} {k : Nat} {o : AObj} (h : k < H.length) : (H ++ L).set k o = H.set k o ++ L := List.set_append_left _ _ h
theorem f29_ok {k : Nat} {b : AV} {wr : Bool} {x1 : Int} {s : List UInt8} (hw : Wr H k b wr) (hb : Bs B H b s) (hx : x1 ≤ 9223372036854775807) (hsz : s.length ≤ 400000000000)
  (h : ∀ G : Heap,G.length = H.length → (∀ j,j ≠ k → G[j]? = H[j]?) → Wr G k (growV H.length 1 ((s ++ putF x1.toNat).map brw)) (wr || !(decide (0 ≤ x1) && decide (x1 ≤ 1099511627776))) →
   Q (.tuple []) (G ++ [.arr ((s ++ putF x1.toNat).map brw).flatten])) : Cl B 29 [wp k,.int .i64 x1] H Q := by
 have hk := lt_of_get hw
 refine f29_in fun n cl hn hcl hH hA => ?_
 subst hcl
 have emax : IntKind.u64.wrap (maxInts x1 [0]) = ((x1.toNat : Nat) : Int) := by
  have : maxInts x1 [0] = ((x1.toNat : Nat) : Int) := by simp only [maxInts]; split <;> omega
  rw [this]
  simp only [IntKind.wrap,IntKind.bits,IntKind.signed]
  simp; omega
 have go : ∀ so : Bool,so = (decide (0 ≤ x1) && decide (x1 ≤ 1099511627776)) → ∀ G0,G0 = H.set k (.var [b,.bool (wr || !so)]) →
   aop B E0 G0 (fun v19 _ => aop B E0 G0 (fun v20 _ => ob (peek B G0 v20) fun c21 => pLive c21 fun v22 => Cl B 62 [v22,.int .u64 (IntKind.u64.wrap (maxInts x1 [0]))] G0 fun v23 H24 => pLive v23 fun v25 => aop B E0 H24 (fun v26 _ => aop B E0 H24 (fun v27 _ => aop B E0 H24 (fun _ H29 => tidyK n Q (.tuple []) H29) (.st 1 (.const v27) (.const v25))) (.fieldPtr 0 (.const v26))) (.nilCheck (.const (wp k)))) (.fieldPtr 0 (.const v19))) (.nilCheck (.const (wp k))) := fun so hso G0 hG0 => by
  have hw0 : Wr G0 k b (wr || !so) := by rw [hG0]; exact get_set hk
  have hlen : G0.length = H.length := by rw [hG0]; exact List.length_set
  have hb0 : Bs B G0 b s := by rw [hG0]; exact hb.set_wr hb hw
  refine op_nil (op_fldP ?_)
  rw [peekV hw0 (v := b) (i := 0 + 0) rfl,ob_some]
  refine Sl.live hb0 _ ?_
  rw [emax]
  refine f62_ok hb0 (by omega) (by omega) ?_
  have hne : (s ++ putF x1.toNat).map brw ≠ [] := by simp [putF_ne]
  rw [growV_ne hne]
  refine live_slice _ (op_nil (op_fldP ?_))
  refine op_st (vs := [.slice (.new G0.length) 0 ((s ++ putF x1.toNat).map brw).length 1 none]) (c := [b,.bool (wr || !so)]) rfl rfl (get_pre hw0) (by simp) (tidy_none ?_)
  rw [set_pre (by rw [hlen]; exact hk)]
  have := h (G0.set k (.var [growV H.length 1 ((s ++ putF x1.toNat).map brw),.bool (wr || !so)])) (by rw [List.length_set,hlen]) (fun j hj => by rw [get_set_ne (Ne.symm hj),hG0,get_set_ne (Ne.symm hj)]) (by
   rw [← hso]; exact get_set (by rw [hlen]; exact hk))
  rw [growV_ne hne] at this
  rw [hlen]
  exact this
 refine bs_dec (fun h1 => ib_le (f25_ok hw (live_unit ?_))) fun h1 => f25_ok hw (live_unit ?_)
 ·exact go _ (by rw [decide_eq_true (by omega : (0 : Int) ≤ x1),Bool.true_and]) _ rfl
 ·exact go false (by rw [decide_eq_false (by omega : ¬ (0 : Int) ≤ x1),Bool.false_and]) _ rfl
end
end Go.Am
namespace Go.Am
open Go
section
variable {B : Base} {n : Nat} {H : Heap} {Q : AV → Heap → Prop}
theorem f61_ok {v : AV} {s t : List UInt8} (hs : Bs B H v s) (hsz : s.length ≤ 800000000000) (ht : t.length ≤ 1000000000)
  (h : Q (growV H.length 1 ((s ++ putF t.length ++ t).map brw)) (H ++ [.arr ((s ++ putF t.length ++ t).map brw).flatten])) : Cl B 61 [v,.str t] H Q := by
 refine f61_in fun n cl hn hcl hH hA => ?_
 subst hcl
 have e : IntKind.u64.wrap ((t.length : Nat) : Int) = ((t.length : Nat) : Int) := by
  simp only [IntKind.wrap,IntKind.bits,IntKind.signed]
  simp; omega
 rw [e]
 refine f62_ok hs (by omega) (by omega) ?_
 have hpl : (putF t.length).length ≤ t.length + 1 := putF_len _
 have hne : (s ++ putF t.length).map brw ≠ [] := by simp [putF_ne]
 rw [growV_ne hne]
 refine live_slice _ ?_
 by_cases h0 : t = []
 ·subst h0
  rw [List.append_nil,growV_ne hne] at h
  have : ∀ K : AV → Heap → Prop,∀ G v',K (.slice v' 0 ((s ++ putF ([] : List UInt8).length).map brw).length 1 none) G → aop B E0 G K (.appendS (.const (.slice v' 0 ((s ++ putF ([] : List UInt8).length).map brw).length 1 none)) (.const (.str []))) := fun K G v' hK => by
   simp only [aop,opK,Opd.look,ob_some,pStr_str]
   exact hK
  exact this _ _ _ (tidy_none h)
 ·have hv : AppOk B H [.arr ((s ++ putF t.length).map brw).flatten] 1 (.slice (.new (H.length + 0)) 0 ((s ++ putF t.length).map brw).length 1 none) ((s ++ putF t.length).map brw) := ⟨brws_len _,.inr (.inr ⟨0,hne,rfl,rfl⟩)⟩
  simp only [aop,opK,Opd.look,ob_some,pStr_str]
  have hap := app_to (bytes := 1) (rows2 := t.map brw) (K := fun v H5 => tidyK n Q v H5) hv (by simpa using h0) (by simp [maxBytes]; omega) fun L1 hL1 _ => by
   have e2 : (s ++ putF t.length).map brw ++ t.map brw = (s ++ putF t.length ++ t).map brw := by simp
   rw [e2,← hL1]
   exact f62_end hn hH (by simp [h0]) h
  rw [brws_cells t,show (t.map brw).length = t.length from by simp] at hap
  exact hap
theorem f28_ok {k : Nat} {b : AV} {wr : Bool} {s t : List UInt8} (hw : Wr H k b wr) (hb : Bs B H b s) (hsz : s.length ≤ 400000000000) (ht : t.length ≤ 1000000000)
  (h : ∀ G : Heap,G.length = H.length → (∀ j,j ≠ k → G[j]? = H[j]?) → Wr G k (growV H.length 1 ((s ++ putF t.length ++ t).map brw)) wr → Q (.tuple []) (G ++ [.arr ((s ++ putF t.length ++ t).map brw).flatten])) : Cl B 28 [wp k,.str t] H Q := by
 have hk := lt_of_get hw
 refine f28_in fun n cl hn hcl hH hA => op_nil (op_fldP ?_)
 subst hcl
 rw [peekV hw (v := b) (i := 0 + 0) rfl,ob_some]
 refine Sl.live hb _ (f61_ok hb (by omega) ht ?_)
 have hne : (s ++ putF t.length ++ t).map brw ≠ [] := by simp [putF_ne]
 rw [growV_ne hne] at h ⊢
 refine live_slice _ (op_nil (op_fldP ?_))
 refine op_st (vs := [.slice (.new H.length) 0 ((s ++ putF t.length ++ t).map brw).length 1 none]) (c := [b,.bool wr]) rfl rfl (get_pre hw) (by simp) (tidy_none ?_)
 rw [set_pre hk]
 exact h _ List.length_set (fun j hj => get_set_ne (Ne.symm hj)) (get_set hk)
def numOk (x : Int) : Bool := decide (0 ≤ x) && decide (x ≤ 1099511627776)
structure WSt (B : Base) (H G : Heap) (row : List AV) (wi : Nat) (s : List UInt8) (wr : Bool) : Prop where
 pre : ∃ L,G = H ++ L
 req : G[H.length]? = some (.var row)
 wri : ∃ b,Wr G wi b wr ∧ Bs B G b s
 far : H.length < wi
theorem pre_of {G1 : Heap} {L : Heap} {k : Nat} (hl : G1.length = (H ++ L).length) (hk : H.length < k) (hg : ∀ j,j ≠ k → G1[j]? = (H ++ L)[j]?) : ∃ L1,G1 = H ++ L1 := by
 refine ⟨G1.drop H.length,?_⟩
 have : G1.take H.length = H := by
  apply List.ext_getElem?
  intro j
  rw [List.getElem?_take]
  split
  ·rename_i hj
   rw [hg j (by omega),List.getElem?_append_left hj]
  ·rw [List.getElem?_eq_none (by omega)]
 conv => lhs; rw [← List.take_append_drop H.length G1,this]
variable {G : Heap} {row : List AV} {wi : Nat} {s t : List UInt8} {wr : Bool} {K : Heap → Prop}
theorem WSt.must {so : Bool} (h : WSt B H G row wi s wr) (hk : ∀ G',WSt B H G' row wi s (wr || !so) → K G') : Cl B 25 [wp wi,.bool so] G fun v G' => pLive v fun _ => K G' := by
 obtain ⟨⟨L,rfl⟩,hr,⟨b,hw,hb⟩,hf⟩ := h
 have hlt := lt_of_get hw
 refine f25_ok hw (live_unit (hk _ ⟨pre_of (L := L) List.length_set hf fun j hj => get_set_ne (Ne.symm hj),?_,⟨b,get_set hlt,hb.set_wr hb hw⟩,hf⟩))
 rw [get_set_ne (by omega)]; exact hr
theorem WSt.text (h : WSt B H G row wi s wr) (hsz : s.length ≤ 400000000000) (ht : t.length ≤ 1000000000) (hk : ∀ G',WSt B H G' row wi (s ++ putF t.length ++ t) wr → K G') : Cl B 28 [wp wi,.str t] G fun v G' => pLive v fun _ => K G' := by
 obtain ⟨⟨L,rfl⟩,hr,⟨b,hw,hb⟩,hf⟩ := h
 refine f28_ok hw hb hsz ht fun G1 hl hg hw1 => live_unit (hk _ ⟨?_,?_,⟨growV (H ++ L).length 1 ((s ++ putF t.length ++ t).map brw),?_,?_⟩,hf⟩)
 ·obtain ⟨L1,hL1⟩ := pre_of hl hf hg
  exact ⟨L1 ++ _,by rw [hL1,List.append_assoc]⟩
 ·have hlt := lt_of_get hr
  rw [get_low (by omega),hg _ (by omega)]; exact hr
 ·exact get_pre hw1
 ·exact growV_sl (by rw [← hl,get_app0]; rw [growO_ne (by simp [putF_ne])]; rfl) (brws_len _)
theorem WSt.num {x : Int} (h : WSt B H G row wi s wr) (hsz : s.length ≤ 400000000000) (hx : x ≤ 9223372036854775807) (hk : ∀ G',WSt B H G' row wi (s ++ putF x.toNat) (wr || !numOk x) → K G') : Cl B 29 [wp wi,.int .i64 x] G fun v G' => pLive v fun _ => K G' := by
 obtain ⟨⟨L,rfl⟩,hr,⟨b,hw,hb⟩,hf⟩ := h
 refine f29_ok hw hb hx hsz fun G1 hl hg hw1 => live_unit (hk _ ⟨?_,?_,⟨growV (H ++ L).length 1 ((s ++ putF x.toNat).map brw),?_,?_⟩,hf⟩)
 ·obtain ⟨L1,hL1⟩ := pre_of hl hf hg
  exact ⟨L1 ++ _,by rw [hL1,List.append_assoc]⟩
 ·have hlt := lt_of_get hr
  rw [get_low (by omega),hg _ (by omega)]; exact hr
 ·exact get_pre hw1
 ·exact growV_sl (by rw [← hl,get_app0]; rw [growO_ne (by simp [putF_ne])]; rfl) (brws_len _)
theorem WSt.done {Q' : AV → Heap → Prop} (h : WSt B H G row wi s wr) (h1 : wr = true → Q' (.tuple [.nils,.int .i64 1]) G) (h2 : wr = false → ∀ v,Bs B G v s → Q' (.tuple [v,.int .i64 0]) G) : Cl B 30 [wp wi] G Q' := by
 obtain ⟨_,hr,⟨b,hw,hb⟩,hf⟩ := h
 exact f30_ok hw (fun K hK => Sl.live hb K hK) h1 fun e => h2 e b hb
theorem WSt.fld {v : AV} {off : Nat} {K : AV → Heap → Prop} (h : WSt B H G row wi s wr) (hv : row[off]? = some v) (hk : peek B G (.ptr (some (.new H.length,off))) = some v → K (.ptr (some (.new H.length,off))) G) : aop B E0 G K (.fieldPtr off (.const (wp H.length))) := by
 refine op_fldP ?_
 rw [Nat.zero_add]
 exact hk (peekV h.req hv)
end
end Go.Am
namespace Go.Am
open Go
theorem putF_small : ∀ x : Nat,x < 18446744073709551616 → (putF x).length ≤ 10 := by
 have : ∀ m x : Nat,x < 128 ^ (m + 1) → (putF x).length ≤ m + 1 := fun m => by
  induction m with
  | zero => intro x hx; unfold putF; rw [if_pos (by simpa using hx)]; simp
  | succ m ih =>
   intro x hx
   unfold putF
   split
   ·simp
   ·have := ih (x / 128) (by rw [Nat.pow_succ] at hx; omega)
    simp only [List.length_cons]; omega
 intro x hx
 exact this 9 x (by omega)
structure Ent where
 key : List UInt8
 value : List UInt8
 del : Bool
 seq : Int
deriving DecidableEq
def Ent.row (e : Ent) : List AV := [.str e.key,.str e.value,.bool e.del,.int .i64 e.seq]
def entR (e : Ent) : Bool := !(e.key == []) && (decide ((e.key.length : Int) ≤ 128) && (decide ((e.value.length : Int) ≤ 1024) && (!(e.del && !(e.value == [])) && (decide (e.seq ≥ 1) && decide (e.seq ≤ 1099511627776)))))
def entB (e : Ent) : List UInt8 := (if e.del then 1 else 0) :: (putF e.seq.toNat ++ (putF e.key.length ++ e.key) ++ (if e.del then [] else putF e.value.length ++ e.value))
section
variable {B : Base} {n : Nat} {H G : Heap} {Q : AV → Heap → Prop} {e : Ent}
theorem f59_ok (h : Q (.bool (entR e)) H) : Cl B 59 [.agg e.row] H Q := by
 refine f59_in fun n cl hn hcl hH hA => op_box rfl rfl (J59_0_in ?_)
 have p : ∀ {i : Nat} {v : AV},e.row[i]? = some v → peek B (H ++ [AObj.var e.row]) (.ptr (some (.new H.length,i))) = some v := fun {i v} hv => peekV (c := e.row) (by rw [get_app0]; rfl) hv
 have fin : ∀ b : Bool,b = entR e → tidyK n Q (.bool b) (H ++ [.var e.row]) := fun b hb => by subst hb; exact tidy_drop hn hH low_bool h
 refine op_fldP ?_
 rw [p (v := .str e.key) (i := 0 + 0) rfl,ob_some,pStr_str,pStr_str]
 refine bs_iff.2 ⟨fun h1 => op_fldP ?_,fun h1 => fin _ (by simp only [entR]; rw [h1]; rfl)⟩
 rw [p (v := .str e.key) (i := 0 + 0) rfl,ob_some,pStr_str]
 refine bs_iff.2 ⟨fun h2 => op_fldP ?_,fun h2 => fin _ (by simp only [entR]; rw [h1,h2]; rfl)⟩
 rw [p (v := .str e.value) (i := 0 + 1) rfl,ob_some,pStr_str]
 refine bs_iff.2 ⟨fun h3 => op_fldP ?_,fun h3 => fin _ (by simp only [entR]; rw [h1,h2,h3]; rfl)⟩
 rw [p (v := .bool e.del) (i := 0 + 2) rfl,ob_some,pBool_bool]
 have tail : (e.del && !(e.value == [])) = false → aop B E0 (H ++ [.var e.row]) (fun v27 _ => ob (peek B (H ++ [.var e.row]) v27) fun c28 => pInt .i64 c28 fun n29 => bs (decide (n29 ≥ 1)) (aop B E0 (H ++ [.var e.row]) (fun v30 _ => ob (peek B (H ++ [.var e.row]) v30) fun c31 => pInt .i64 c31 fun n32 => ibinK .leq .i64 n32 1099511627776 fun v33 => tidyK n Q v33 (H ++ [.var e.row])) (.fieldPtr 3 (.const (.ptr (some (.new H.length,0)))))) (tidyK n Q (.bool false) (H ++ [.var e.row]))) (.fieldPtr 3 (.const (.ptr (some (.new H.length,0))))) := fun h4 => by
  refine op_fldP ?_
  rw [p (v := .int .i64 e.seq) (i := 0 + 3) rfl,ob_some,pInt_int]
  refine bs_iff.2 ⟨fun h5 => op_fldP ?_,fun h5 => fin _ (by simp only [entR]; rw [h1,h2,h3,h4,h5]; rfl)⟩
  rw [p (v := .int .i64 e.seq) (i := 0 + 3) rfl,ob_some,pInt_int]
  exact ib_le (fin _ (by simp only [entR]; rw [h1,h2,h3,h4,h5]; rfl))
 refine bs_iff.2 ⟨fun h4 => op_fldP ?_,fun h4 => tail (by rw [h4]; rfl)⟩
 rw [p (v := .str e.value) (i := 0 + 1) rfl,ob_some,pStr_str,pStr_str]
 exact bs_iff.2 ⟨fun h5 => fin _ (by simp only [entR]; rw [h1,h2,h3,h4,h5]; rfl),fun h5 => tail (by rw [h4,h5]; rfl)⟩
theorem sb_add {a b : List UInt8} {K : AV → Prop} (hl : a.length + b.length ≤ maxInt) (h : K (.str (a ++ b))) : sbinK .add a b K := by
 show (if a.length + b.length ≤ maxInt then K (.str (a ++ b)) else False)
 rw [if_pos hl]; exact h
end
end Go.Am
namespace Go.Am
open Go
section
variable {B : Base} {n : Nat} {H G : Heap} {Q : AV → Heap → Prop} {e : Ent}
theorem entR_len (h : entR e = true) : e.key.length ≤ 128 ∧ e.value.length ≤ 1024 ∧ 1 ≤ e.seq ∧ e.seq ≤ 1099511627776 := by
 simp only [entR,Bool.and_eq_true,decide_eq_true_eq] at h
 omega
theorem f60_ok (h1 : entR e = true → ∀ v L,Bs B (H ++ L) v (entB e) → Q v (H ++ L)) (h2 : entR e = false → ∀ L,Q .nils (H ++ L)) : Cl B 60 [.agg e.row] H Q := by
 refine f60_in fun n cl hn hcl hH hA => op_box rfl rfl ?_
 subst hcl
 have g0 : (H ++ [AObj.var e.row])[H.length]? = some (.var e.row) := by rw [get_app0]; rfl
 rw [peekVN g0 (n := 4) rfl,ob_some]
 refine f59_ok ?_
 rw [pBool_bool]
 refine bs_iff.2 ⟨fun hr => ?_,fun hr => tidy_none (h2 hr _)⟩
 obtain ⟨l1,l2,l3,l4⟩ := entR_len hr
 rw [show layParts [(.int .u8 0)] [(0,1,.int .u8 0)] = some [.int .u8 0] from rfl,ob_some]
 refine slK_in ?_
 have hl0 : (H ++ [AObj.var e.row]).length = H.length + 1 := by simp
 rw [hl0]
 have go : ∀ G : Heap,(∃ L,G = H ++ L) → G[H.length]? = some (.var e.row) → Bs B G (.slice (.new (H.length + 1)) 0 1 1 (some 1)) [if e.del then 1 else 0] → J60_1 B (Cl B) n (.ptr (some (.new H.length,0))) (.slice (.new (H.length + 1)) 0 1 1 (some 1)) G Q := fun G ⟨L,hL⟩ gr hb => by
  have p : ∀ {M : Heap} {i : Nat} {v : AV},e.row[i]? = some v → peek B (G ++ M) (.ptr (some (.new H.length,i))) = some v := fun {M i v} hv => peekV (c := e.row) (get_pre gr) hv
  have p0 : ∀ {i : Nat} {v : AV},e.row[i]? = some v → peek B G (.ptr (some (.new H.length,i))) = some v := fun {i v} hv => peekV (c := e.row) gr hv
  refine J60_1_in (op_fldP ?_)
  rw [p0 (v := .int .i64 e.seq) (i := 0 + 3) rfl,ob_some,pInt_int]
  refine op_fldP ?_
  rw [p0 (v := .str e.key) (i := 0 + 0) rfl,ob_some,pStr_str]
  have es : IntKind.u64.wrap e.seq = ((e.seq.toNat : Nat) : Int) := by
   simp only [IntKind.wrap,IntKind.bits,IntKind.signed]
   simp; omega
  rw [es]
  refine f62_ok hb (by omega) (by simp) ?_
  have ps := putF_small e.seq.toNat (by omega)
  have pk := putF_small e.key.length (by omega)
  have b1 : Bs B (G ++ [.arr (([if e.del then 1 else 0] ++ putF e.seq.toNat).map brw).flatten]) (growV G.length 1 (([if e.del then 1 else 0] ++ putF e.seq.toNat).map brw)) ([if e.del then 1 else 0] ++ putF e.seq.toNat) := growV_sl (by rw [get_app0]; rfl) (brws_len _)
  generalize ho1 : AObj.arr (([if e.del then 1 else 0] ++ putF e.seq.toNat).map brw).flatten = o1 at b1 ⊢
  generalize growV G.length 1 (([if e.del then 1 else 0] ++ putF e.seq.toNat).map brw) = v1 at b1 ⊢
  refine Sl.live b1 _ ⟨?_,op_fldP rfl,?_⟩
  ·rw [p (v := .str e.key) (i := 0 + 0) rfl,ob_some,pStr_str]
  refine f61_ok b1 (by simp; omega) (by omega) ?_
  have b2 : Bs B (G ++ [o1] ++ [.arr (([if e.del then 1 else 0] ++ putF e.seq.toNat ++ putF e.key.length ++ e.key).map brw).flatten]) (growV (G ++ [o1]).length 1 (([if e.del then 1 else 0] ++ putF e.seq.toNat ++ putF e.key.length ++ e.key).map brw)) ([if e.del then 1 else 0] ++ putF e.seq.toNat ++ putF e.key.length ++ e.key) :=
   growV_sl (by rw [get_app0,growO_ne (by simp)]; rfl) (brws_len _)
  generalize ho2 : AObj.arr (([if e.del then 1 else 0] ++ putF e.seq.toNat ++ putF e.key.length ++ e.key).map brw).flatten = o2 at b2 ⊢
  generalize growV (G ++ [o1]).length 1 (([if e.del then 1 else 0] ++ putF e.seq.toNat ++ putF e.key.length ++ e.key).map brw) = v2 at b2 ⊢
  refine Sl.live b2 _ (op_fldP ?_)
  rw [List.append_assoc,p (v := .bool e.del) (i := 0 + 2) rfl,ob_some,pBool_bool]
  rw [List.append_assoc] at b2
  have b0 : [if e.del then (1 : UInt8) else 0] ++ putF e.seq.toNat ++ putF e.key.length ++ e.key = (if e.del then 1 else 0) :: (putF e.seq.toNat ++ (putF e.key.length ++ e.key)) := by simp
  refine bs_iff.2 ⟨fun hd => J60_0_in (tidy_none ?_),fun hd => op_fldP ?_⟩
  ·rw [hL,List.append_assoc] at b2 ⊢
   refine h1 hr _ _ ?_
   rw [b0] at b2
   simp only [entB]
   rw [hd] at b2 ⊢
   simpa using b2
  ·rw [p (v := .str e.value) (i := 0 + 1) rfl,ob_some,pStr_str]
   refine f61_ok b2 (by simp; omega) (by omega) ?_
   have b3 : Bs B (G ++ ([o1] ++ [o2]) ++ [.arr (([if e.del then 1 else 0] ++ putF e.seq.toNat ++ putF e.key.length ++ e.key ++ putF e.value.length ++ e.value).map brw).flatten]) (growV (G ++ ([o1] ++ [o2])).length 1 (([if e.del then 1 else 0] ++ putF e.seq.toNat ++ putF e.key.length ++ e.key ++ putF e.value.length ++ e.value).map brw)) ([if e.del then 1 else 0] ++ putF e.seq.toNat ++ putF e.key.length ++ e.key ++ putF e.value.length ++ e.value) :=
    growV_sl (by rw [get_app0,growO_ne (by simp)]; rfl) (brws_len _)
   refine Sl.live b3 _ (J60_0_in (tidy_none ?_))
   generalize growV (G ++ ([o1] ++ [o2])).length 1 (([if e.del then 1 else 0] ++ putF e.seq.toNat ++ putF e.key.length ++ e.key ++ putF e.value.length ++ e.value).map brw) = v3 at b3 ⊢
   generalize AObj.arr (([if e.del then 1 else 0] ++ putF e.seq.toNat ++ putF e.key.length ++ e.key ++ putF e.value.length ++ e.value).map brw).flatten = o3 at b3 ⊢
   rw [hL,List.append_assoc,List.append_assoc] at b3 ⊢
   refine h1 hr _ _ ?_
   rw [b0] at b3
   simp only [entB]
   rw [hd] at b3 ⊢
   simpa using b3
 have gz : (H ++ [AObj.var e.row] ++ [.arr [.int .u8 0]])[H.length]? = some (.var e.row) := get_pre g0
 have ga : (H ++ [AObj.var e.row] ++ [.arr [.int .u8 0]])[H.length + 1]? = some (.arr [.int .u8 0]) := by rw [List.append_assoc,get_app]; rfl
 refine op_fldP ?_
 rw [peekV gz (v := .bool e.del) (i := 0 + 2) rfl,ob_some,pBool_bool]
 refine bs_iff.2 ⟨fun hd => ?_,fun hd => ?_⟩
 ·have hb0 : Bs B (H ++ [AObj.var e.row] ++ [.arr [.int .u8 0]]) (.slice (.new (H.length + 1)) 0 1 1 (some 1)) [0] := ⟨brws_len _,.inr ⟨_,_,_,rfl,cellsAt_iff'.2 ⟨[.int .u8 0],by simp only [cellsOf,ga],by simp,rfl⟩⟩⟩
  refine op_idxB hb0 (i := 0) (c := 0) rfl fun _ => ?_
  refine op_st_arr (vs := [.int .u8 1]) (c := [.int .u8 0]) rfl rfl ga (by simp) (go _ ⟨[AObj.var e.row,.arr [.int .u8 1]],?_⟩ ?_ ?_)
  ·rw [List.append_assoc,set_app]; rfl
  ·rw [get_set_ne (by omega)]; exact gz
  ·rw [hd]
   exact ⟨brws_len _,.inr ⟨_,_,_,rfl,cellsAt_iff'.2 ⟨[.int .u8 1],by simp only [cellsOf,get_set (lt_of_get ga)]; rfl,by simp,rfl⟩⟩⟩
 ·refine go _ ⟨[AObj.var e.row,.arr [.int .u8 0]],by simp⟩ gz ?_
  rw [hd]
  exact ⟨brws_len _,.inr ⟨_,_,_,rfl,cellsAt_iff'.2 ⟨[.int .u8 0],by simp only [cellsOf,ga],by simp,rfl⟩⟩⟩
end
end Go.Am
namespace Go.Am
open Go
def capOK (v : AV) : Prop := ∀ o off len es c,v = .slice o off len es (some c) → len ≤ c
structure BsC (B : Base) (H : Heap) (v : AV) (s : List UInt8) : Prop where
 bs : Bs B H v s
 cap : capOK v
structure Sw (B : Base) (H G : Heap) (row : List AV) (wi : Nat) (s : List UInt8) (wr : Bool) : Prop where
 app : ∃ L b,G = H ++ L ∧ Wr G wi b wr ∧ AppOk B H L 1 b (s.map brw)
 req : G[H.length]? = some (.var row)
 far : H.length < wi
section
variable {B : Base} {n : Nat} {H G : Heap} {Q : AV → Heap → Prop} {row : List AV} {wi : Nat} {s t : List UInt8} {wr : Bool} {K : Heap → Prop} {e : Ent}
theorem AppOk.cap {L : Heap} {es : Nat} {v : AV} {rows : List (List AV)} (h : AppOk B H L es v rows) : capOK v := fun o off len es' c e => by
 obtain ⟨_,⟨rfl,_⟩ | ⟨o2,off2,rfl,_⟩ | ⟨j,_,rfl,_⟩⟩ := h
 ·cases e
 ·injection e with e1 e2 e3 e4 e5
  injection e5 with e5
  omega
 ·cases e
theorem AppOk.pre {L M : Heap} {es : Nat} {v : AV} {rows : List (List AV)} (h : AppOk B H L es v rows) : AppOk B H (L ++ M) es v rows := by
 obtain ⟨h0,h1 | ⟨o,off,rfl,hc⟩ | ⟨j,hne,rfl,hg⟩⟩ := h
 ·exact ⟨h0,.inl h1⟩
 ·exact ⟨h0,.inr (.inl ⟨o,off,rfl,by rw [← List.append_assoc]; exact cellsAt_pre hc⟩)⟩
 ·exact ⟨h0,.inr (.inr ⟨j,hne,rfl,get_pre hg⟩)⟩
theorem Sw.pre {M : Heap} (h : Sw B H G row wi s wr) : Sw B H (G ++ M) row wi s wr := by
 obtain ⟨⟨L,b,rfl,hw,ha⟩,hr,hf⟩ := h
 exact ⟨⟨L ++ M,b,by rw [List.append_assoc],get_pre hw,ha.pre⟩,get_pre hr,hf⟩
theorem Sw.grown (h : Sw B H G row wi s wr) : ∃ L,G = H ++ L := by
 obtain ⟨⟨L,b,rfl,_⟩,_⟩ := h
 exact ⟨L,rfl⟩
theorem AppOk.set {L : Heap} {k : Nat} {b c : AV} {wr wr' : Bool} (ha : AppOk B H L 1 b (s.map brw)) (hg : (H ++ L)[H.length + k]? = some (.var [b,.bool wr])) : AppOk B H (L.set k (.var [c,.bool wr'])) 1 b (s.map brw) := by
 have hs := ha.sl
 have hb : Bs B (H ++ L) b s := hs
 have hb2 := hb.set_wr (c := c) (wr' := .bool wr') hb hg
 rw [set_app] at hb2
 obtain ⟨h0,h1 | ⟨o,off,e1,hc⟩ | ⟨j,hne,e1,hj⟩⟩ := ha
 ·exact ⟨h0,.inl h1⟩
 ·refine ⟨h0,.inr (.inl ⟨o,off,e1,?_⟩)⟩
  obtain ⟨_,⟨e2,_⟩ | ⟨o2,off2,cap2,e2,hc2⟩⟩ := hb2
  ·rw [e1] at e2; cases e2
  ·rw [e1] at e2; cases e2; exact hc2
 ·refine ⟨h0,.inr (.inr ⟨j,hne,e1,?_⟩)⟩
  rw [List.getElem?_set]
  split
  ·rename_i e2; subst e2
   rw [get_app,hj] at hg; cases hg
  ·exact hj
theorem Sw.must {so : Bool} (h : Sw B H G row wi s wr) (hk : ∀ G',Sw B H G' row wi s (wr || !so) → (∀ j,j ≠ wi → G'[j]? = G[j]?) → K G') : Cl B 25 [wp wi,.bool so] G fun v G' => pLive v fun _ => K G' := by
 obtain ⟨⟨L,b,rfl,hw,ha⟩,hr,hf⟩ := h
 obtain ⟨k,rfl⟩ : ∃ k,wi = H.length + k := ⟨wi - H.length,by omega⟩
 have hlt := lt_of_get hw
 refine f25_ok hw (live_unit (hk _ ⟨⟨L.set k (.var [b,.bool (wr || !so)]),b,set_app _ _,get_set hlt,ha.set hw⟩,?_,hf⟩ fun j hj => get_set_ne (Ne.symm hj)))
 rw [get_set_ne (by omega)]; exact hr
theorem own_app {L1 : Heap} {G1 : Heap} (hL : G1 = H ++ L1) (hne : t ≠ []) {k : Nat} (hk : k = G1.length) : AppOk B H (L1 ++ [.arr (t.map brw).flatten]) 1 (growV k 1 (t.map brw)) (t.map brw) := by
 subst hk hL
 have hm : t.map brw ≠ [] := by simpa using hne
 refine ⟨brws_len _,.inr (.inr ⟨L1.length,hm,?_,?_⟩)⟩
 ·rw [growV_ne hm,List.length_append]
 ·rw [List.getElem?_append_right (Nat.le_refl _),Nat.sub_self]; rfl
theorem Sw.num {x : Int} (h : Sw B H G row wi s wr) (hsz : s.length ≤ 400000000000) (hx : x ≤ 9223372036854775807) (hk : ∀ G',Sw B H G' row wi (s ++ putF x.toNat) (wr || !numOk x) → K G') : Cl B 29 [wp wi,.int .i64 x] G fun v G' => pLive v fun _ => K G' := by
 obtain ⟨⟨L,b,rfl,hw,ha⟩,hr,hf⟩ := h
 refine f29_ok hw ha.sl hx hsz fun G1 hl hg hw1 => live_unit (hk _ ?_)
 obtain ⟨L1,hL1⟩ := pre_of hl hf hg
 refine ⟨⟨L1 ++ [.arr ((s ++ putF x.toNat).map brw).flatten],growV (H ++ L).length 1 ((s ++ putF x.toNat).map brw),by rw [hL1,List.append_assoc],get_pre hw1,own_app hL1 (by simp [putF_ne]) hl.symm⟩,?_,hf⟩
 have hlt := lt_of_get hr
 rw [get_low (by omega),hg _ (by omega)]; exact hr
theorem Sw.st (h : Sw B H G row wi s wr) : WSt B H G row wi s wr := by
 obtain ⟨⟨L,b,rfl,hw,ha⟩,hr,hf⟩ := h
 exact ⟨⟨L,rfl⟩,hr,⟨b,hw,ha.sl⟩,hf⟩
theorem Sw.entry (h : Sw B H G row wi s wr) (hsz : s.length ≤ 400000000000) (hk : ∀ G',Sw B H G' row wi (s ++ if entR e = true then entB e else []) (wr || !entR e) → K G') : Cl B 27 [wp wi,.agg e.row] G fun v G' => pLive v fun _ => K G' := by
 refine f27_in fun n cl hn hcl hH hA => op_box rfl rfl ?_
 subst hcl
 have g0 : (G ++ [AObj.var e.row])[G.length]? = some (.var e.row) := by rw [get_app0]; rfl
 have hwi : wi < G.length := by obtain ⟨⟨L,b,_,hw,_⟩,_⟩ := h; exact lt_of_get hw
 rw [peekVN g0 (n := 4) rfl,ob_some]
 refine f59_ok (tyK_bool ?_)
 refine (h.pre (M := [.var e.row])).must fun G1 h1 hfr => ?_
 have g1 : G1[G.length]? = some (.var e.row) := by rw [hfr _ (by omega)]; exact g0
 obtain ⟨⟨L1,b,hG1,hw1,ha1⟩,hr1,hf1⟩ := h1
 refine op_nil (op_fldP ?_)
 rw [peekV hw1 (v := b) (i := 0 + 0) rfl,ob_some]
 refine Sl.live ha1.sl _ ?_
 rw [peekVN g1 (n := 4) rfl,ob_some]
 have rest : ∀ (v : AV) (M : Heap) (t : List UInt8),Bs B (G1 ++ M) v t → t.length ≤ 2000 → t = (if entR e = true then entB e else []) →
   aop B E0 (G1 ++ M) (fun v18 H19 => (wp wi : AV) = wp wi ∧ aop B E0 H19 (fun v20 _ => aop B E0 H19 (fun v21 _ => aop B E0 H19 (fun _ H23 => tidyK n (fun v G' => pLive v fun _ => K G') (.tuple []) H23) (.st 1 (.const v21) (.const v18))) (.fieldPtr 0 (.const v20))) (.nilCheck (.const (wp wi)))) (.append 1 1 (.const b) (.const v)) := fun v M t hv htl ht => by
  subst hG1
  have ha2 : AppOk B H (L1 ++ M) 1 b (s.map brw) := ha1.pre
  have hw2 : Wr (H ++ (L1 ++ M)) wi b (wr || !entR e) := by rw [← List.append_assoc]; exact get_pre hw1
  have hr2 : (H ++ (L1 ++ M))[H.length]? = some (.var row) := by rw [← List.append_assoc]; exact get_pre hr1
  rw [List.append_assoc] at hv ⊢
  obtain ⟨k,rfl⟩ : ∃ k,wi = H.length + k := ⟨wi - H.length,by omega⟩
  by_cases h0 : t = []
  ·subst h0
   have ap : ∀ K' : AV → Heap → Prop,K' b (H ++ (L1 ++ M)) → aop B E0 (H ++ (L1 ++ M)) K' (.append 1 1 (.const b) (.const v)) := fun K' hK => by
    have e1 := Sl.len hv
    have e2 := Sl.elems hv
    simp only [List.map_nil,List.length_nil,List.flatten_nil] at e1 e2
    simp only [aop,opK,Opd.look,ob_some,e1,e2]
    rw [if_pos (by simp)]
    have : appendTo B (H ++ (L1 ++ M)) 1 1 b 0 ([] : List AV) = some (b,H ++ (L1 ++ M)) := by
     obtain ⟨_,⟨rfl,_⟩ | ⟨o,off,rfl,_⟩ | ⟨j,_,rfl,_⟩⟩ := ha2 <;> rfl
    rw [this,ob_some]; exact hK
   refine ap _ ⟨rfl,op_nil (op_fldP ?_)⟩
   have hcb : b.cells? = some [b] := by
    obtain ⟨_,⟨rfl,_⟩ | ⟨o,off,rfl,_⟩ | ⟨j,_,rfl,_⟩⟩ := ha2 <;> rfl
   refine op_st (vs := [b]) (c := [b,.bool (wr || !entR e)]) hcb rfl hw2 (by simp) (tidy_none (live_unit (hk _ ?_)))
   rw [show putAt [b,.bool (wr || !entR e)] (0 + 0) [b] = [b,.bool (wr || !entR e)] from rfl,set_same hw2,← ht,List.append_nil]
   exact ⟨⟨L1 ++ M,b,rfl,hw2,ha2⟩,hr2,hf1⟩
  ·refine op_appX ha2 hv (by simpa using h0) (by simp [maxBytes]; omega) fun L3 hL3 hfr3 => ⟨rfl,op_nil (op_fldP ?_)⟩
   have e1 : s.map brw ++ t.map brw = (s ++ t).map brw := by simp
   rw [e1]
   have hk3 : L3[k]? = (L1 ++ M)[k]? := hfr3 k fun r e3 => by
    obtain ⟨_,⟨rfl,_⟩ | ⟨o,off,rfl,_⟩ | ⟨j,_,rfl,hj⟩⟩ := ha2
    ·cases e3
    ·cases e3
    ·have : j = k := by
      simp only [AV.slice.injEq,Id.new.injEq] at e3
      omega
     subst this
     have hw3 := hw2
     unfold Wr at hw3
     rw [get_app,hj] at hw3; cases hw3
   have h03 : L3[0]? = (L1 ++ M)[0]? := hfr3 0 fun r e3 => by
    obtain ⟨_,⟨rfl,_⟩ | ⟨o,off,rfl,_⟩ | ⟨j,_,rfl,hj⟩⟩ := ha2
    ·cases e3
    ·cases e3
    ·have : j = 0 := by
      simp only [AV.slice.injEq,Id.new.injEq] at e3
      omega
     subst this
     rw [get_app0,hj] at hr2; cases hr2
   have hw3 : (H ++ (L3 ++ [.arr ((s ++ t).map brw).flatten]))[H.length + k]? = some (.var [b,.bool (wr || !entR e)]) := by
    have hw2' := hw2
    unfold Wr at hw2'
    rw [get_app] at hw2' ⊢
    rw [List.getElem?_append_left (by rw [hL3]; exact lt_of_get hw2'),hk3]; exact hw2'
   refine op_st (vs := [.slice (.new (H.length + (L1 ++ M).length)) 0 ((s ++ t).map brw).length 1 none]) (c := [b,.bool (wr || !entR e)]) rfl rfl hw3 (by simp) (tidy_none (live_unit (hk _ ?_)))
   have hlt := lt_of_get hw3
   have hkl : k < L3.length := by
    rw [hL3]
    have hw2' := hw2
    unfold Wr at hw2'
    rw [get_app] at hw2'
    exact lt_of_get hw2'
   rw [← ht]
   refine ⟨⟨L3.set k (.var [.slice (.new (H.length + (L1 ++ M).length)) 0 ((s ++ t).map brw).length 1 none,.bool (wr || !entR e)]) ++ [.arr ((s ++ t).map brw).flatten],.slice (.new (H.length + (L1 ++ M).length)) 0 ((s ++ t).map brw).length 1 none,?_,get_set hlt,?_⟩,?_,hf1⟩
   ·rw [set_app,List.set_append_left _ _ hkl]; rfl
   ·refine ⟨brws_len _,.inr (.inr ⟨(L1 ++ M).length,by simp [h0],rfl,?_⟩)⟩
    rw [List.getElem?_append_right (by simp [hL3])]
    simp [hL3]
   ·rw [get_set_ne (by omega)]
    rw [get_app0] at hr2
    have h0l : 0 < L3.length := by rw [hL3]; exact lt_of_get hr2
    rw [get_app0,List.getElem?_append_left h0l,h03]; exact hr2
 have hconj : ∀ M : Heap,peek B (G1 ++ M) (.ptr (some (.new wi,0 + 0))) = some b := fun M => peekV (get_pre hw1) rfl
 refine f60_ok (fun hr v M hv => ?_) fun hr M => ?_
 ·obtain ⟨l1,l2,l3,l4⟩ := entR_len hr
  have hle : (entB e).length ≤ 2000 := by
   have := putF_small e.seq.toNat (by omega)
   have := putF_small e.key.length (by omega)
   have := putF_small e.value.length (by omega)
   simp only [entB,List.length_cons,List.length_append]
   split <;> simp <;> omega
  refine Sl.live hv _ ⟨?_,op_fldP rfl,op_nil rfl,rfl,rfl,rest v M (entB e) hv hle (by rw [hr]; rfl)⟩
  rw [hconj,ob_some]
  exact Sl.live ha1.sl _ rfl
 ·refine live_nils _ ⟨?_,op_fldP rfl,op_nil rfl,rfl,rfl,rest .nils M [] Bs.nil (by simp) (by rw [hr]; rfl)⟩
  rw [hconj,ob_some]
  exact Sl.live ha1.sl _ rfl
theorem Sw.doneC {Q' : AV → Heap → Prop} (h : Sw B H G row wi s wr) (h1 : wr = true → Q' (.tuple [.nils,.int .i64 1]) G) (h2 : wr = false → ∀ v,BsC B G v s → Q' (.tuple [v,.int .i64 0]) G) : Cl B 30 [wp wi] G Q' := by
 obtain ⟨⟨L,b,rfl,hw,ha⟩,_,_⟩ := h
 have hb : Bs B (H ++ L) b s := ha.sl
 exact f30_ok hw (fun K hK => Sl.live hb K hK) h1 fun e => h2 e b ⟨hb,ha.cap⟩
end
end Go.Am
namespace Go.Am
open Go
structure Rq where
 kind : Int
 ents : List Ent
 key : List UInt8
 lo : List UInt8
 hi : List UInt8
 epoch : Int
deriving DecidableEq
def Rq.row (r : Rq) (ev : AV) : List AV := [.int .i64 r.kind,ev,.str r.key,.str r.lo,.str r.hi,.int .i64 r.epoch]
def entsB (l : List Ent) : List UInt8 := l.flatMap fun e => if entR e = true then entB e else []
def entsW (l : List Ent) : Bool := l.any fun e => !entR e
section
variable {B : Base} {n : Nat} {H G : Heap} {Q : AV → Heap → Prop} {row : List AV} {wi : Nat} {s t : List UInt8} {wr : Bool} {K : Heap → Prop}
theorem Sw.text (h : Sw B H G row wi s wr) (hsz : s.length ≤ 400000000000) (ht : t.length ≤ 1000000000) (hk : ∀ G',Sw B H G' row wi (s ++ putF t.length ++ t) wr → K G') : Cl B 28 [wp wi,.str t] G fun v G' => pLive v fun _ => K G' := by
 obtain ⟨⟨L,b,rfl,hw,ha⟩,hr,hf⟩ := h
 refine f28_ok hw ha.sl hsz ht fun G1 hl hg hw1 => live_unit (hk _ ?_)
 obtain ⟨L1,hL1⟩ := pre_of hl hf hg
 refine ⟨⟨L1 ++ [.arr ((s ++ putF t.length ++ t).map brw).flatten],growV (H ++ L).length 1 ((s ++ putF t.length ++ t).map brw),by rw [hL1,List.append_assoc],get_pre hw1,own_app hL1 (by simp [putF_ne]) hl.symm⟩,?_,hf⟩
 have hlt := lt_of_get hr
 rw [get_low (by omega),hg _ (by omega)]; exact hr
theorem Sw.fld {v : AV} {off : Nat} {K : AV → Heap → Prop} (h : Sw B H G row wi s wr) (hv : row[off]? = some v) (hk : peek B G (.ptr (some (.new H.length,off))) = some v → K (.ptr (some (.new H.length,off))) G) : aop B E0 G K (.fieldPtr off (.const (wp H.length))) := h.st.fld hv hk
theorem entB_len {e : Ent} : (if entR e = true then entB e else []).length ≤ 2000 := by
 split
 ·rename_i hr
  obtain ⟨l1,l2,l3,l4⟩ := entR_len hr
  have := putF_small e.seq.toNat (by omega)
  have := putF_small e.key.length (by omega)
  have := putF_small e.value.length (by omega)
  simp only [entB,List.length_cons,List.length_append]
  split <;> simp <;> omega
 ·simp
theorem f26_loop {l : List Ent} {ev : AV} (he : Sl B H 4 ev (l.map Ent.row)) (hsz : l.length ≤ 50) (hs0 : s.length ≤ 10000) (hk : ∀ G',Sw B H G' row wi (s ++ entsB l) (wr || entsW l) → K G') :
  ∀ (rest : List Ent) (i : Nat) (acc : List UInt8) (w : Bool) (G : Heap),l.drop i = rest → acc ++ entsB rest = s ++ entsB l → (w || entsW rest) = (wr || entsW l) → acc.length ≤ 10000 + 2000 * i → Sw B H G row wi acc w →
   L26_0 B (Cl B) n (.func (.func 27) [wp wi] []) ev (l.length : Int) (i : Int) G (fun v G' => pLive v fun _ => K G')
 | [],i,acc,w,G,hd,ha,hw,hal,hG => by
  have hl := drop_nil hd
  refine L26_0_in (ACall.cle B table) (bs_dec (fun h1 => by omega) fun _ => tidy_none (live_unit (hk _ ?_)))
  simp only [entsB,entsW,List.flatMap_nil,List.append_nil,List.any_nil,Bool.or_false] at ha hw
  unfold entsB entsW
  rw [← ha,← hw]; exact hG
 | e :: r,i,acc,w,G,hd,ha,hw,hal,hG => by
  obtain ⟨hget,hlt,hd'⟩ := drop_cons hd
  obtain ⟨L,rfl⟩ := hG.grown
  have hrow : (l.map Ent.row)[i]? = some e.row := by simp [hget]
  have hs : Sl B (H ++ L) 4 ev (l.map Ent.row) := he.pre
  refine L26_0_in (ACall.cle B table) (bs_dec (fun _ => op_idx hs (by simpa using hlt) ?_) fun h1 => absurd (by omega) h1)
  rw [(hs.el hrow).peekN (n := 4) rfl,ob_some]
  refine op_alloc (op_st_last rfl rfl ?_)
  rw [peekVN (n := 4) (by rw [get_app0]; rfl) rfl,ob_some]
  show Cl B 27 [wp wi,.agg e.row] _ _
  have hel := @entB_len e
  refine (hG.pre (M := [.var e.row])).entry (by omega) fun G' h' => ?_
  rw [w64 (n := (i : Int) + 1) (by omega)]
  refine f26_loop he hsz hs0 hk r (i + 1) _ _ G' hd' ?_ ?_ ?_ h'
  ·rw [← ha]; simp [entsB]
  ·rw [← hw]; simp [entsW,Bool.or_assoc]
  ·rw [List.length_append]; omega
theorem Sw.list {l : List Ent} {ev : AV} (h : Sw B H G row wi s wr) (he : Sl B H 4 ev (l.map Ent.row)) (hsz : l.length ≤ 50) (hs : s.length ≤ 1000) (hk : ∀ G',Sw B H G' row wi ((s ++ putF l.length) ++ entsB l) ((wr || !decide ((l.length : Int) ≤ 32)) || entsW l) → K G') :
  Cl B 26 [wp wi,ev,.int .i64 32,.func (.func 27) [wp wi] []] G fun v G' => pLive v fun _ => K G' := by
 refine f26_in fun n cl hn hcl hH hA => ?_
 subst hcl
 have hlen : lenOf ev = some l.length := by have := he.len; rwa [List.length_map] at this
 rw [hlen,ob_some]
 refine ib_le (h.must fun G1 h1 _ => ?_)
 rw [ob_some]
 have hn0 : numOk ((l.length : Nat) : Int) = true := by simp [numOk]; omega
 refine h1.num (by omega) (by omega) fun G2 h2 => ?_
 rw [hn0,Bool.not_true,Bool.or_false] at h2
 have hpl := putF_small l.length (by omega)
 rw [ob_some]
 exact f26_loop (s := s ++ putF l.length) he hsz (by simp; omega) hk l 0 _ _ G2 rfl rfl rfl (by simp; omega) h2
def v0 (r : Rq) : Bool := !(decide (r.kind ≥ 1) && decide (r.kind ≤ 6))
def v1 (r : Rq) : Bool := !(r.kind == 1 || decide (r.ents = []))
def v2 (r : Rq) : Bool := !(r.kind == 2 || r.key == [])
def v3 (r : Rq) : Bool := !(r.kind == 3 || (r.lo == [] && r.hi == []))
def v4 (r : Rq) : Bool := !(r.kind == 4 || (r.kind == 5 || r.epoch == 0))
def v5 (r : Rq) : Bool := !decide (maxInts (r.key.length : Int) [(r.lo.length : Int),(r.hi.length : Int)] ≤ 128)
def v6 (r : Rq) : Bool := if r.kind = 1 then ((!decide ((r.ents.length : Int) > 0)) || !decide ((r.ents.length : Int) ≤ 32)) || entsW r.ents else if r.kind = 4 ∨ r.kind = 5 then !numOk r.epoch else false
def akW (r : Rq) : Bool := (v0 r || v1 r || v2 r || v3 r || v4 r || v5 r) || v6 r
def fb (k : Int) : UInt8 := UInt8.ofNat (IntKind.u8.wrap k).toNat
def akF (r : Rq) : List UInt8 := [fb r.kind] ++ (if r.kind = 1 then putF r.ents.length ++ entsB r.ents else if r.kind = 2 then putF r.key.length ++ r.key else if r.kind = 3 then (putF r.lo.length ++ r.lo) ++ (putF r.hi.length ++ r.hi) else if r.kind = 4 ∨ r.kind = 5 then putF r.epoch.toNat else [])
variable {r : Rq} {ev : AV}
theorem g13_done (h : Sw B H G (r.row ev) (H.length + 2) s wr) (h1 : wr = true → ∀ L,Q (.tuple [.nils,.int .i64 1]) (H ++ L)) (h2 : wr = false → ∀ v L,BsC B (H ++ L) v s → Q (.tuple [v,.int .i64 0]) (H ++ L)) : J13_5 B (Cl B) n (wp (H.length + 2)) G Q := by
 obtain ⟨L,hL⟩ := h.grown
 subst hL
 refine J13_5_in (h.doneC (fun e => ?_) fun e v hv => ?_)
 ·exact op_ext2 (fun K hK => hK) (tidy_none (h1 e L))
 ·exact op_ext2 (fun K hK => Sl.live hv.bs K hK) (tidy_none (h2 e v L hv))
theorem g13_switch (h : Sw B H G (r.row ev) (H.length + 2) [fb r.kind] wr) (he : Sl B H 4 ev (r.ents.map Ent.row)) (hx : r.epoch ≤ 9223372036854775807) (hkl : r.ents.length ≤ 50 ∧ r.key.length ≤ 1000000 ∧ r.lo.length ≤ 1000000 ∧ r.hi.length ≤ 1000000)
  (h1 : (wr || v6 r) = true → ∀ L,Q (.tuple [.nils,.int .i64 1]) (H ++ L)) (h2 : (wr || v6 r) = false → ∀ v L,BsC B (H ++ L) v (akF r) → Q (.tuple [v,.int .i64 0]) (H ++ L)) : J13_6 B (Cl B) n (wp H.length) (wp (H.length + 2)) G Q := by
 have hlen : lenOf ev = some r.ents.length := by have := he.len; rwa [List.length_map] at this
 refine J13_6_in (h.fld (v := .int .i64 r.kind) (off := 0) rfl fun p => ?_)
 rw [p,ob_some,pInt_int]
 by_cases e1 : r.kind = 1
 ·refine J13_4_in (ib_eq_yes e1 (J13_3_in ?_))
  rw [pBool_bool,if_pos rfl]
  refine h.fld (v := ev) (off := 1) rfl fun p => ?_
  rw [p,ob_some]
  refine Sl.live he _ ?_
  rw [hlen,ob_some]
  refine ib_gt (h.must fun G1 st1 _ => J13_0_in (st1.fld (v := ev) (off := 1) rfl fun p => ?_))
  rw [p,ob_some]
  refine Sl.live he _ (st1.list he hkl.1 (by simp) fun G2 st2 => ?_)
  refine g13_done st2 (fun e => h1 ?_) fun e v L hv => h2 ?_ v L ?_
  ·simp only [v6,if_pos e1]; rw [← e]; simp [Bool.or_assoc]
  ·simp only [v6,if_pos e1]; rw [← e]; simp [Bool.or_assoc]
  ·simp only [akF,if_pos e1]; simpa using hv
 refine J13_4_in (ib_eq_no e1 (J13_3_in ?_))
 rw [pBool_bool,if_neg (by simp)]
 by_cases e2 : r.kind = 2
 ·refine ib_eq_yes e2 (J13_2_in ?_)
  rw [pBool_bool,if_pos rfl]
  have hn4 : v6 r = false := by simp [v6,e2]
  refine h.fld (v := .str r.key) (off := 2) rfl fun p => ?_
  rw [p,ob_some,pStr_str]
  refine h.text (by simp) (by omega) fun G' h' => g13_done h' (fun e => h1 (by rw [hn4,Bool.or_false]; exact e)) fun e => ?_
  have := h2 (by rw [hn4,Bool.or_false]; exact e)
  simp only [akF,if_neg e1,if_pos e2] at this
  simpa using this
 refine ib_eq_no e2 (J13_2_in ?_)
 rw [pBool_bool,if_neg (by simp)]
 by_cases e3 : r.kind = 3
 ·refine bs_yes (by simp [e3]) (h.fld (v := .str r.lo) (off := 3) rfl fun p => ?_)
  have hn4 : v6 r = false := by simp [v6,e3]
  rw [p,ob_some,pStr_str]
  refine h.text (by simp) (by omega) fun G' h' => h'.fld (v := .str r.hi) (off := 4) rfl fun p => ?_
  rw [p,ob_some,pStr_str]
  have hpl := putF_small r.lo.length (by omega)
  refine h'.text (by simp; omega) (by omega) fun G2 h2' => g13_done h2' (fun e => h1 (by rw [hn4,Bool.or_false]; exact e)) fun e => ?_
  have := h2 (by rw [hn4,Bool.or_false]; exact e)
  simp only [akF,if_neg e1,if_neg e2,if_pos e3] at this
  simpa using this
 refine bs_no (by simp [e3]) ?_
 have goJ : ∀ c : Bool,c = (r.kind == 4 || r.kind == 5) → J13_1 B (Cl B) n (wp H.length) (wp (H.length + 2)) (.bool c) G Q := fun c hc => by
  refine J13_1_in ?_
  rw [pBool_bool]
  by_cases c1 : c = true
  ·rw [if_pos c1]
   have hor : r.kind = 4 ∨ r.kind = 5 := by rw [c1] at hc; simpa using hc.symm
   simp only [v6,if_neg e1,if_pos hor] at h1 h2
   refine h.fld (v := .int .i64 r.epoch) (off := 5) rfl fun p => ?_
   rw [p,ob_some,pInt_int]
   refine h.num (by simp) hx fun G' h' => g13_done h' h1 fun e => ?_
   have := h2 e
   simp only [akF,if_neg e1,if_neg e2,if_neg e3,if_pos hor] at this
   exact this
  ·rw [if_neg c1]
   have c0 : c = false := by simpa using c1
   have hor : ¬ (r.kind = 4 ∨ r.kind = 5) := by rw [c0] at hc; simpa using hc.symm
   simp only [v6,if_neg e1,if_neg hor,Bool.or_false] at h1 h2
   refine g13_done h h1 fun e => ?_
   have := h2 e
   simp only [akF,if_neg e1,if_neg e2,if_neg e3,if_neg hor,List.append_nil] at this
   exact this
 refine bs_iff.2 ⟨fun h4 => goJ true (by rw [h4]; rfl),fun h4 => ib_eqq (goJ _ (by rw [h4]; rfl))⟩
theorem g13_ok (he : Sl B H 4 ev (r.ents.map Ent.row)) (hx : r.epoch ≤ 9223372036854775807) (hkl : r.ents.length ≤ 50 ∧ r.key.length ≤ 1000000 ∧ r.lo.length ≤ 1000000 ∧ r.hi.length ≤ 1000000)
  (h1 : akW r = true → ∀ L,Q (.tuple [.nils,.int .i64 1]) (H ++ L)) (h2 : akW r = false → ∀ v L,BsC B (H ++ L) v (akF r) → Q (.tuple [v,.int .i64 0]) (H ++ L)) : Cl B 13 [.agg (r.row ev)] H Q := by
 have hlen : lenOf ev = some r.ents.length := by have := he.len; rwa [List.length_map] at this
 refine f13_in fun n cl hn hcl hH hA => op_box rfl rfl (J13_13_in ?_)
 subst hcl
 refine op_fldP ?_
 rw [peekV (v := .int .i64 r.kind) (i := 0 + 0) (c := r.row ev) (by rw [get_app0]; rfl) rfl,ob_some,pInt_int]
 have eb : IntKind.u8.wrap r.kind = (((fb r.kind).toNat : Nat) : Int) := by
  have h0 : 0 ≤ IntKind.u8.wrap r.kind ∧ IntKind.u8.wrap r.kind < 256 := by rw [IntKind.wrap_u8]; omega
  unfold fb
  rw [UInt8.toNat_ofNat_of_lt' (by show _ < 256; omega)]; omega
 rw [eb,show layParts [(.int .u8 0)] [(0,1,.int .u8 (((fb r.kind).toNat : Nat) : Int))] = some (brw (fb r.kind)) from rfl,ob_some]
 refine slK_in ?_
 have e1 : (H ++ [AObj.var (r.row ev)]).length = H.length + 1 := by simp
 rw [e1,show layParts [.nils,(.bool false)] [(0,1,.slice (.new (H.length + 1)) 0 1 1 (some 1))] = some [.slice (.new (H.length + 1)) 0 1 1 (some 1),.bool false] from rfl,ob_some]
 refine op_box rfl rfl ?_
 have e2 : (H ++ [AObj.var (r.row ev)] ++ [AObj.arr (brw (fb r.kind))]).length = H.length + 2 := by simp
 rw [e2]
 have st : Sw B H (H ++ [AObj.var (r.row ev)] ++ [.arr (brw (fb r.kind))] ++ [.var [.slice (.new (H.length + 1)) 0 1 1 (some 1),.bool false]]) (r.row ev) (H.length + 2) [fb r.kind] false := by
  refine ⟨⟨[.var (r.row ev),.arr (brw (fb r.kind)),.var [.slice (.new (H.length + 1)) 0 1 1 (some 1),.bool false]],.slice (.new (H.length + 1)) 0 1 1 (some 1),by simp,?_,?_⟩,?_,by omega⟩
  ·show _ = _
   rw [List.append_assoc,List.append_assoc,get_app]; rfl
  ·refine ⟨brws_len _,.inr (.inl ⟨_,_,rfl,cellsAt_iff'.2 ⟨brw (fb r.kind),?_,by simp [brw],rfl⟩⟩)⟩
   simp only [cellsOf]
   rw [get_app]; rfl
  ·rw [List.append_assoc,List.append_assoc,get_app0]; rfl
 generalize H ++ [AObj.var (r.row ev)] ++ [.arr (brw (fb r.kind))] ++ [.var [.slice (.new (H.length + 1)) 0 1 1 (some 1),.bool false]] = G at st
 have k0 : ∀ c : Bool,c = !(v0 r) → Cl B 25 [wp (H.length + 2),.bool c] G fun v G' => pLive v fun _ => J13_11 B (Cl B) n (wp H.length) (wp (H.length + 2)) G' Q := fun c hc => st.must fun G1 st1 _ => by
  subst hc
  rw [Bool.not_not,Bool.false_or] at st1
  have k1 : ∀ c : Bool,c = !(v1 r) → Cl B 25 [wp (H.length + 2),.bool c] G1 fun v G' => pLive v fun _ => J13_10 B (Cl B) n (wp H.length) (wp (H.length + 2)) G' Q := fun c hc => st1.must fun G2 st2 _ => by
   subst hc
   rw [Bool.not_not] at st2
   have k2 : ∀ c : Bool,c = !(v2 r) → Cl B 25 [wp (H.length + 2),.bool c] G2 fun v G' => pLive v fun _ => J13_9 B (Cl B) n (wp H.length) (wp (H.length + 2)) G' Q := fun c hc => st2.must fun G3 st3 _ => by
    subst hc
    rw [Bool.not_not] at st3
    have k3 : ∀ c : Bool,c = !(v3 r) → Cl B 25 [wp (H.length + 2),.bool c] G3 fun v G' => pLive v fun _ => J13_8 B (Cl B) n (wp H.length) (wp (H.length + 2)) G' Q := fun c hc => st3.must fun G4 st4 _ => by
     subst hc
     rw [Bool.not_not] at st4
     have k4 : ∀ c : Bool,c = !(v4 r) → Cl B 25 [wp (H.length + 2),.bool c] G4 fun v G' => pLive v fun _ => J13_7 B (Cl B) n (wp H.length) (wp (H.length + 2)) G' Q := fun c hc => st4.must fun G5 st5 _ => by
      subst hc
      rw [Bool.not_not] at st5
      refine J13_7_in (st5.fld (v := .str r.key) (off := 2) rfl fun p => ?_)
      rw [p,ob_some,pStr_str]
      refine st5.fld (v := .str r.lo) (off := 3) rfl fun p => ?_
      rw [p,ob_some,pStr_str]
      refine st5.fld (v := .str r.hi) (off := 4) rfl fun p => ?_
      rw [p,ob_some,pStr_str]
      refine ib_le (st5.must fun G6 st6 _ => ?_)
      exact g13_switch st6 he hx hkl h1 h2
     refine J13_8_in (st4.fld (v := .int .i64 r.kind) (off := 0) rfl fun p => ?_)
     rw [p,ob_some,pInt_int]
     refine bs_iff.2 ⟨fun h4 => k4 true (by simp only [v4]; rw [h4]; rfl),fun h4 => st4.fld (v := .int .i64 r.kind) (off := 0) rfl fun p => ?_⟩
     rw [p,ob_some,pInt_int]
     refine bs_iff.2 ⟨fun h5 => k4 true (by simp only [v4]; rw [h5]; simp),fun h5 => st4.fld (v := .int .i64 r.epoch) (off := 5) rfl fun p => ?_⟩
     rw [p,ob_some,pInt_int]
     exact ib_eqq (k4 _ (by simp only [v4]; rw [h4,h5]; simp))
    refine J13_9_in (st3.fld (v := .int .i64 r.kind) (off := 0) rfl fun p => ?_)
    rw [p,ob_some,pInt_int]
    refine bs_iff.2 ⟨fun h3 => k3 true (by simp only [v3]; rw [h3]; rfl),fun h3 => st3.fld (v := .str r.lo) (off := 3) rfl fun p => ?_⟩
    rw [p,ob_some,pStr_str,pStr_str]
    refine bs_iff.2 ⟨fun hl => st3.fld (v := .str r.hi) (off := 4) rfl fun p => ?_,fun hl => k3 false (by simp only [v3]; rw [h3,hl]; rfl)⟩
    rw [p,ob_some,pStr_str,pStr_str]
    exact bool_split (K := fun v => Cl B 25 [wp (H.length + 2),v] G3 fun v G' => pLive v fun _ => J13_8 B (Cl B) n (wp H.length) (wp (H.length + 2)) G' Q) (k3 _ (by simp only [v3]; rw [h3,hl]; simp))
   refine J13_10_in (st2.fld (v := .int .i64 r.kind) (off := 0) rfl fun p => ?_)
   rw [p,ob_some,pInt_int]
   refine bs_iff.2 ⟨fun h3 => k2 true (by simp only [v2]; rw [h3]; rfl),fun h3 => st2.fld (v := .str r.key) (off := 2) rfl fun p => ?_⟩
   rw [p,ob_some,pStr_str,pStr_str]
   exact bool_split (K := fun v => Cl B 25 [wp (H.length + 2),v] G2 fun v G' => pLive v fun _ => J13_9 B (Cl B) n (wp H.length) (wp (H.length + 2)) G' Q) (k2 _ (by simp only [v2]; rw [h3]; simp))
  refine J13_11_in (st1.fld (v := .int .i64 r.kind) (off := 0) rfl fun p => ?_)
  rw [p,ob_some,pInt_int]
  refine bs_iff.2 ⟨fun h3 => k1 true (by simp only [v1]; rw [h3]; rfl),fun h3 => st1.fld (v := ev) (off := 1) rfl fun p => ?_⟩
  rw [p,ob_some]
  refine Sl.live he _ ?_
  rw [hlen,ob_some]
  refine ib_eqq (k1 _ ?_)
  simp only [v1]
  rw [h3]
  cases r.ents with
  | nil => rfl
  | cons a b => simp; omega
 refine J13_12_in (st.fld (v := .int .i64 r.kind) (off := 0) rfl fun p => ?_)
 rw [p,ob_some,pInt_int]
 refine bs_iff.2 ⟨fun h3 => st.fld (v := .int .i64 r.kind) (off := 0) rfl fun p => ?_,fun h3 => k0 false (by simp only [v0]; rw [h3]; rfl)⟩
 rw [p,ob_some,pInt_int]
 exact ib_le (k0 _ (by simp only [v0]; rw [h3]; simp))
end
end Go.Am
namespace Go.Am
open Go
def updC (C : Nat → Option AObj) (p : Nat) (o : AObj) : Nat → Option AObj := fun q => if q = p then some o else C q
theorem updC_at {C : Nat → Option AObj} {p : Nat} {o : AObj} : updC C p o p = some o := if_pos rfl
theorem updC_ne {C : Nat → Option AObj} {p q : Nat} {o : AObj} (h : q ≠ p) : updC C p o q = C q := if_neg h
section
variable {B : Base} {n : Nat} {H G : Heap} {Q : AV → Heap → Prop}
theorem set_preL {L : List AObj} {i : Nat} {o : AObj} (hi : H.length ≤ i) : ∃ L',(H ++ L).set i o = H ++ L' :=
 ⟨L.set (i - H.length) o,by rw [List.set_append_right _ _ hi]⟩
theorem cut_of {es a b : Nat} {v : AV} {rows : List (List AV)} (h : Sl B H es v rows) (hc : capOK v) (hab : a ≤ b) (hb : b ≤ rows.length) : ∃ v',sliceOf es v (a : Int) (b : Int) = some v' ∧ Sl B H es v' ((rows.drop a).take (b - a)) ∧ capOK v' := by
 obtain ⟨h0,⟨rfl,rfl⟩ | ⟨o,off,cap,rfl,hcl⟩⟩ := h
 ·have e1 : b = 0 := by simpa using hb
  subst e1
  have e2 : a = 0 := by omega
  subst e2
  exact ⟨.nils,rfl,⟨fun r hr => by simp at hr,.inl ⟨rfl,rfl⟩⟩,fun o off len es c e => by cases e⟩
 ·have hlen : ((rows.drop a).take (b - a)).length = b - a := by rw [List.length_take,List.length_drop]; omega
  have h0' : ∀ r,r ∈ (rows.drop a).take (b - a) → r.length = es := fun r hr => h0 r (List.mem_of_mem_drop (List.mem_of_mem_take hr))
  have hfl : ∀ (k : Nat) (rs : List (List AV)),(∀ r,r ∈ rs → r.length = es) → k ≤ rs.length → (rs.drop k).flatten = rs.flatten.drop (k * es) ∧ (rs.take k).flatten = rs.flatten.take (k * es) := fun k rs hrs hk => by
   have h1 : rs.flatten = (rs.take k).flatten ++ (rs.drop k).flatten := by rw [← List.flatten_append,List.take_append_drop]
   have h2 : (rs.take k).flatten.length = k * es := by
    rw [flatten_len (fun r hr => hrs r (List.mem_of_mem_take hr)),List.length_take]; congr 1; omega
   constructor
   ·rw [h1,← h2,List.drop_left']; rfl
   ·rw [h1,← h2,List.take_left']; rfl
  have hfl2 : ((rows.drop a).take (b - a)).flatten = (rows.flatten.drop (a * es)).take ((b - a) * es) := by
   rw [(hfl (b - a) (rows.drop a) (fun r hr => h0 r (List.mem_of_mem_drop hr)) (by rw [List.length_drop]; omega)).2,(hfl a rows h0 (by omega)).1]
  have hm1 : (a + (b - a)) * es ≤ rows.length * es := Nat.mul_le_mul_right es (by omega)
  rw [Nat.add_mul] at hm1
  have hcut : cellsAt B H o (off + a * es) (((rows.drop a).take (b - a)).length * es) = some ((rows.drop a).take (b - a)).flatten := by
   rw [hlen,cellsAt_sub hcl (j := a * es) (m := (b - a) * es) hm1,hfl2]
  simp only [sliceOf]
  rw [if_pos ⟨trivial,by omega,by omega,by omega⟩]
  cases cap with
  | none => exact ⟨_,rfl,⟨h0',.inr ⟨o,off + a * es,none,by rw [hlen]; simp,hcut⟩⟩,fun o off len es c e => by cases e⟩
  | some c =>
   have hz : rows.length ≤ c := hc _ _ _ _ _ rfl
   refine ⟨_,rfl,⟨h0',.inr ⟨o,(if c = (a : Int).toNat then off else off + (a : Int).toNat * es),some (c - (a : Int).toNat),by rw [hlen]; simp,?_⟩⟩,fun o' off' len es' c' e => by cases e; omega⟩
   by_cases hcj : c = a
   ·have hnil : (rows.drop a).take (b - a) = [] := List.length_eq_zero_iff.1 (by omega)
    rw [hnil]
    obtain ⟨cs,x,y,_⟩ := cellsAt_iff'.1 hcl
    refine cellsAt_iff'.2 ⟨cs,x,?_,by simp⟩
    rw [if_pos (by omega)]; simp; omega
   ·rw [if_neg (by omega)]
    simpa using hcut
theorem op_sl3 {K : AV → Heap → Prop} {es len : Nat} {v r : AV} {a b : Int} (hl : lenOf v = some len) (hs : sliceOf es v a b = some r) (hk : K r G) : aop B E0 G K (.sliceL es (.const v) (some (.const (.int .i64 a))) (some (.const (.int .i64 b))) none) := by
 simp only [aop,opK,Opd.look,ob_some,hl,optK,pAny_int,hs]; exact hk
theorem op_sl2 {K : AV → Heap → Prop} {es len : Nat} {v r : AV} {a : Int} (hl : lenOf v = some len) (hs : sliceOf es v a (len : Int) = some r) (hk : K r G) : aop B E0 G K (.sliceL es (.const v) (some (.const (.int .i64 a))) none none) := by
 simp only [aop,opK,Opd.look,ob_some,hl,optK,pAny_int,hs]; exact hk
theorem live_tuple {l : List AV} {K : AV → Prop} (h : K (.tuple l)) : pLive (.tuple l) K := h
theorem op_extS {K : AV → Heap → Prop} {l : List AV} {i : Nat} {s : List UInt8} (h : l[i]? = some (.str s)) (hk : K (.str s) G) : aop B E0 G K (.extract (some .str) i (.const (.tuple l))) := by
 simp only [aop,opK,Opd.look,ob_some,h]
 exact hk
theorem op_extB {K : AV → Heap → Prop} {l : List AV} {i : Nat} {b : Bool} (h : l[i]? = some (.bool b)) (hk : K (.bool b) G) : aop B E0 G K (.extract (some .bool) i (.const (.tuple l))) := by
 simp only [aop,opK,Opd.look,ob_some,h]
 cases b <;> exact hk
theorem op_extI {K : AV → Heap → Prop} {l : List AV} {i : Nat} {m : Int} (h : l[i]? = some (.int .i64 m)) (hk : K (.int .i64 m) G) : aop B E0 G K (.extract (some (.int .i64)) i (.const (.tuple l))) := by
 simp only [aop,opK,Opd.look,ob_some,h,extK,tyK]
 rw [pInt_int]; exact hk
theorem op_app {K : AV → Heap → Prop} {es bytes m : Nat} {v u r : AV} {c : List AV} {G' : Heap} (hl : lenOf u = some m) (he : elemsOf B G u = some c) (hn : c.length = m * es) (ha : appendTo B G es bytes v m c = some (r,G')) (hk : K r G') :
  aop B E0 G K (.append es bytes (.const v) (.const u)) := by
 simp only [aop,opK,Opd.look,ob_some,hl,he]
 rw [if_pos hn,ha,ob_some]
 exact hk
theorem calleeK_val {f : FuncId} {first args captured : List AV} {K : FuncId → List AV → Prop} (h : K f (first ++ args ++ captured)) : calleeK B E0 G args K (.val (.const (.func (.func f) first captured))) := h
end
structure KW (H G : Heap) (C : Nat → Option AObj) : Prop where
 pre : ∃ L,G = H ++ L
 cs : ∀ p o,C p = some o → G[p]? = some o
section
variable {B : Base} {n : Nat} {H G : Heap} {C : Nat → Option AObj} {Q : AV → Heap → Prop}
theorem KW.lt (h : KW H G C) {p : Nat} {o : AObj} (hp : C p = some o) : p < G.length := lt_of_get (h.cs p o hp)
theorem KW.grow (h : KW H G C) (L : List AObj) : KW H (G ++ L) C := by
 obtain ⟨⟨L0,rfl⟩,h2⟩ := h
 exact ⟨⟨L0 ++ L,List.append_assoc ..⟩,fun p o hp => get_pre (h2 p o hp)⟩
theorem KW.set (h : KW H G C) {p : Nat} {o : AObj} (hp : C p = some o) (hl : H.length ≤ p) (o' : AObj) : KW H (G.set p o') (updC C p o') := by
 have hlt := h.lt hp
 obtain ⟨⟨L0,rfl⟩,h2⟩ := h
 refine ⟨set_preL hl,fun q o2 hq => ?_⟩
 unfold updC at hq
 split at hq
 ·rename_i e; subst e; cases hq; exact get_set hlt
 ·rename_i e; rw [get_set_ne (Ne.symm e)]; exact h2 q o2 hq
theorem KW.add (h : KW H G C) (o : AObj) : KW H (G ++ [o]) (updC C G.length o) := by
 have h1 := h.grow [o]
 refine ⟨h1.pre,fun q o2 hq => ?_⟩
 unfold updC at hq
 split at hq
 ·rename_i e; subst e; cases hq; rw [get_app0]; rfl
 ·exact h1.cs q o2 hq
end
end Go.Am
namespace Go.Am
open Go
def shl7 (c : UInt8) (i : Nat) : Int := IntKind.u64.wrap (IntKind.u64.wrap (bitsOp .and IntKind.u8 (c.toNat : Int) 127) * 2 ^ (min (7 * (i : Int)).toNat IntKind.u64.bits))
def getGo : Int → Nat → List UInt8 → Int × Nat × Bool
 | _,_,[] => (0,0,false)
 | v,i,c :: r =>
  if (i = 9 ∧ c.toNat > 1) ∨ (0 < i ∧ c.toNat = 0) then (0,0,false)
  else if c.toNat < 128 then (bitsOp .or IntKind.u64 v (shl7 c i),i + 1,true) else getGo (bitsOp .or IntKind.u64 v (shl7 c i)) (i + 1) r
def getF (s : List UInt8) : Int × Nat × Bool := getGo 0 0 (s.take 10)
theorem u64_wrap (n : Int) : 0 ≤ IntKind.u64.wrap n ∧ IntKind.u64.wrap n < 18446744073709551616 := by
 simp only [IntKind.wrap,IntKind.bits,IntKind.signed]
 simp; omega
theorem or_range (a b : Int) : 0 ≤ bitsOp .or IntKind.u64 a b ∧ bitsOp .or IntKind.u64 a b < 18446744073709551616 := u64_wrap _
theorem getGo_ok : ∀ (r : List UInt8) (v : Int) (i : Nat),0 ≤ (getGo v i r).1 ∧ (getGo v i r).1 < 18446744073709551616 ∧ (getGo v i r).2.1 ≤ i + r.length ∧ ((getGo v i r).2.2 = false → (getGo v i r).2.1 = 0)
 | [],v,i => by simp [getGo]
 | c :: r,v,i => by
  rw [getGo]
  split
  ·simp
  ·split
   ·have := or_range v (shl7 c i)
    refine ⟨this.1,this.2,?_,fun h => by cases h⟩
    simp only [List.length_cons]; omega
   ·have := getGo_ok r (bitsOp .or IntKind.u64 v (shl7 c i)) (i + 1)
    rw [List.length_cons]
    refine ⟨this.1,this.2.1,by omega,this.2.2.2⟩
theorem getF_ok (s : List UInt8) : 0 ≤ (getF s).1 ∧ (getF s).1 < 18446744073709551616 ∧ (getF s).2.1 ≤ s.length ∧ ((getF s).2.2 = false → (getF s).2.1 = 0) := by
 have := getGo_ok (s.take 10) 0 0
 rw [List.length_take] at this
 unfold getF
 exact ⟨this.1,this.2.1,by omega,this.2.2.2⟩
def textF (s : List UInt8) : List UInt8 × Nat × Bool :=
 if (getF s).2.2 = false ∨ (getF s).1 > (s.length : Int) - ((getF s).2.1 : Int) then ([],0,false) else ((s.drop (getF s).2.1).take (getF s).1.toNat,(getF s).2.1 + (getF s).1.toNat,true)
theorem textF_ok (s : List UInt8) : (textF s).2.1 ≤ s.length ∧ (textF s).1.length ≤ s.length := by
 have := getF_ok s
 unfold textF
 split
 ·simp
 ·rename_i h
  have h := fun x => h (.inr x)
  refine ⟨?_,?_⟩
  ·show (getF s).2.1 + (getF s).1.toNat ≤ s.length
   omega
  ·show ((s.drop (getF s).2.1).take (getF s).1.toNat).length ≤ s.length
   rw [List.length_take,List.length_drop]; omega
section
variable {B : Base} {n : Nat} {H G : Heap} {C : Nat → Option AObj} {Q : AV → Heap → Prop}
theorem brw_take (s : List UInt8) (a m : Nat) : ((s.map brw).drop a).take m = ((s.drop a).take m).map brw := by rw [← List.map_drop,← List.map_take]
theorem bs_rows {v : AV} {s : List UInt8} (h : Bs B G v s) : Sl B G 1 v (s.map brw) := h
theorem get_loop {v : AV} {t : List UInt8} (hv : Bs B G v t) (ht : t.length ≤ 10) : ∀ (r : List UInt8) (i : Nat) (a : Int),t.drop i = r → 0 ≤ a → Q (.tuple [.int .u64 (getGo a i r).1,.int .i64 ((getGo a i r).2.1 : Int),.bool (getGo a i r).2.2]) G →
  L81_4 B (Cl B) n a v (t.length : Int) (i : Int) G Q := by
 intro r
 induction r with
 | nil =>
  intro i a hd ha hq
  have := drop_nil hd
  refine L81_4_in (ACall.cle B table) (ib_lt (J81_3_in ?_))
  rw [decide_eq_false (by omega),pBool_bool,if_neg (by decide)]
  exact J81_5_in (tidy_none hq)
 | cons c r ih =>
  intro i a hd ha hq
  obtain ⟨g1,g2,g3⟩ := drop_cons hd
  refine L81_4_in (ACall.cle B table) (ib_lt (J81_3_in ?_))
  rw [decide_eq_true (by omega),pBool_bool,if_pos rfl]
  refine op_idxB hv g1 fun hpk => ?_
  rw [hpk,ob_some,pInt_int]
  have hc : c.toNat < 256 := c.toNat_lt
  have eni : IntKind.i64.wrap ((i : Int) + 1) = ((i + 1 : Nat) : Int) := by rw [w64 (by omega)]; omega
  have hlo : c.toNat < 128 → decide ((c.toNat : Int) < 128) = true := fun h => decide_eq_true (Int.ofNat_lt.2 h)
  have hhi : 128 ≤ c.toNat → decide ((c.toNat : Int) < 128) = false := fun h => decide_eq_false (Int.not_lt.2 (Int.ofNat_le.2 h))
  have step : ∀ b : Bool,(b = true ↔ ((i = 9 ∧ c.toNat > 1) ∨ (0 < i ∧ c.toNat = 0))) → J81_0 B (Cl B) n a (i : Int) (c.toNat : Int) v (t.length : Int) (i : Int) (.bool b) G Q := fun b hb => by
   refine J81_0_in ?_
   rw [pBool_bool]
   rw [getGo] at hq
   split
   ·rename_i hbt
    rw [if_pos (hb.1 hbt)] at hq
    exact J81_5_in (tidy_none hq)
   ·rename_i hbt
    rw [if_neg (fun h => hbt (hb.2 h))] at hq
    have e7 : IntKind.i64.wrap (7 * (i : Int)) = 7 * (i : Int) := w64 (by omega)
    have eshf : ∀ {K : AV → Heap → Prop},K (.int .u64 (shl7 c i)) G → aop B E0 G K (.shf .shl .u64 (.const (.int .u64 (IntKind.u64.wrap (bitsOp .and IntKind.u8 (c.toNat : Int) 127)))) (.const (.int .i64 (IntKind.i64.wrap (7 * (i : Int)))))) := fun {K} hk => by
     rw [e7]
     simp only [aop,opK,Opd.look,ob_some,pInt_int,pAny_int,shfK]
     rw [if_neg (by omega)]
     exact hk
    refine eshf ?_
    have hrec := fun x => ih (i + 1) x g3
    have hrng := (or_range a (shl7 c i)).1
    generalize shl7 c i = w0 at hq hrng ⊢
    rw [pInt_int]
    refine J81_1_in ?_
    generalize c.toNat = m at hq ⊢
    have hx := hq
    clear hq
    rw [bs_iff]
    refine ⟨fun h => tidy_none ?_,fun h => ?_⟩
    ·rw [if_pos (Int.ofNat_lt.1 (of_decide_eq_true h))] at hx
     rw [eni]; exact hx
    ·rw [if_neg (fun h2 => (of_decide_eq_false h) (Int.ofNat_lt.2 h2))] at hx
     rw [eni]
     exact hrec _ (or_range _ _).1 hx
  refine J81_2_in ?_
  have tail : (i = 9 ∧ c.toNat > 1 → False) → bs (decide ((i : Int) > 0)) (ibinK .eql .u8 (c.toNat : Int) 0 fun v9 => J81_0 B (Cl B) n a (i : Int) (c.toNat : Int) v (t.length : Int) (i : Int) v9 G Q) (J81_0 B (Cl B) n a (i : Int) (c.toNat : Int) v (t.length : Int) (i : Int) (.bool false) G Q) := fun hno => by
   refine bs_dec (fun h => ib_eq (step _ ?_)) fun h => step false ?_
   ·rw [decide_eq_true_eq]
    constructor
    ·intro h2; exact .inr ⟨by omega,by omega⟩
    ·rintro (h2 | ⟨_,h2⟩)
     ·exact (hno h2).elim
     ·omega
   ·constructor
    ·intro h2; cases h2
    ·rintro (h2 | ⟨h2,_⟩)
     ·exact (hno h2).elim
     ·omega
  refine bs_iff.2 ⟨fun h9 => ?_,fun h9 => tail fun h => ?_⟩
  ·have h9 : i = 9 := by
    have : (i : Int) = 9 := by simpa using h9
    omega
   refine bs_dec (fun h1 => step true ?_) fun h1 => tail fun h => by omega
   exact ⟨fun _ => .inl ⟨h9,by omega⟩,fun _ => rfl⟩
  ·have h9 : ¬ (i : Int) = 9 := by simpa using h9
   omega
theorem f81_ok {v : AV} {s : List UInt8} (hv : Bs B G v s) (hq : Q (.tuple [.int .u64 (getF s).1,.int .i64 ((getF s).2.1 : Int),.bool (getF s).2.2]) G) : Cl B 81 [v] G Q := by
 refine f81_in fun n cl hn hcl hH hA => J81_7_in (J81_6_in ?_)
 subst hcl
 rw [hv.len,ob_some]
 have em : minInts (s.length : Int) [(10 : Int)] = ((min s.length 10 : Nat) : Int) := by simp only [minInts]; split <;> omega
 rw [em]
 refine op_prefix (bs_rows hv) rfl (by rw [List.length_map]; omega) fun v' hv' _ => ?_
 have htk : (s.map brw).take (min s.length 10) = (s.take 10).map brw := by
  rw [List.map_take,Nat.min_comm,← List.length_map (f := brw)]
  exact (List.take_eq_take_min ..).symm
 rw [htk] at hv'
 have hv2 : Bs B G v' (s.take 10) := hv'
 rw [hv2.len,ob_some]
 exact get_loop hv2 (by rw [List.length_take]; omega) (s.take 10) 0 0 rfl (Int.le_refl _) hq
theorem f80_ok {v : AV} {s : List UInt8} (hv : Bs B G v s) (hc : capOK v) (hs : (s.length : Int) ≤ 1000000) (hq : Q (.tuple [.str (textF s).1,.int .i64 ((textF s).2.1 : Int),.bool (textF s).2.2]) G) : Cl B 80 [v] G Q := by
 refine f80_in fun n cl hn hcl hH hA => J80_4_in ?_
 subst hcl
 obtain ⟨k1,k2,k3,k4⟩ := getF_ok s
 refine f81_ok hv (live_tuple ?_)
 have extU : ∀ {K : AV → Heap → Prop} {l : List AV} {i : Nat} {m : Int},l[i]? = some (.int .u64 m) → K (.int .u64 m) G → aop B E0 G K (.extract (some (.int .u64)) i (.const (.tuple l))) := fun {K l i m} h hk => by
  simp only [aop,opK,Opd.look,ob_some,h,extK,tyK]
  rw [pInt_int]; exact hk
 refine extU rfl (op_extI rfl ?_)
 refine op_extB (b := (getF s).2.2) rfl (J80_3_in ?_)
 rw [pBool_bool]
 unfold textF at hq
 have bad : ((getF s).2.2 = false ∨ (getF s).1 > (s.length : Int) - ((getF s).2.1 : Int)) → J80_0 B (Cl B) n v (.int .u64 (getF s).1) (.int .i64 ((getF s).2.1 : Int)) (.bool true) G Q := fun h => by
  refine J80_0_in ?_
  rw [pBool_bool,if_pos rfl]
  rw [if_pos h] at hq
  exact tidy_none hq
 refine bs_iff.2 ⟨fun hok => ?_,fun hno => bad (.inl hno)⟩
 rw [hv.len,ob_some,pInt_int,pInt_int]
 have ew : IntKind.u64.wrap (IntKind.i64.wrap ((s.length : Int) - ((getF s).2.1 : Int))) = (s.length : Int) - ((getF s).2.1 : Int) := by
  rw [w64 (by omega)]
  simp only [IntKind.wrap,IntKind.bits,IntKind.signed]
  simp; omega
 rw [ew]
 by_cases hgt : (getF s).1 > (s.length : Int) - ((getF s).2.1 : Int)
 ·exact ib_gt_yes hgt (bad (.inr hgt))
 ·refine ib_gt_no hgt (J80_0_in ?_)
  rw [pBool_bool,if_neg (by decide)]
  rw [if_neg (fun h => h.elim (fun h => by rw [hok] at h; cases h) hgt)] at hq
  refine J80_2_in ?_
  rw [pInt_int,pInt_int,w64 (n := (getF s).1) (by omega),w64 (by omega)]
  refine J80_1_in ?_
  obtain ⟨v',s1,s2,_⟩ := cut_of (bs_rows hv) hc (a := (getF s).2.1) (b := (getF s).2.1 + (getF s).1.toNat) (by omega) (by rw [List.length_map]; omega)
  have eb : ((getF s).2.1 : Int) + (getF s).1 = (((getF s).2.1 + (getF s).1.toNat : Nat) : Int) := by omega
  rw [eb]
  refine op_sl3 hv.len s1 ?_
  rw [Nat.add_sub_cancel_left,brw_take] at s2
  exact op_toStr s2 (tidy_none hq)
end
end Go.Am
