/- The document's readers: numbers,texts,digests. -/
import Derived.Test.YtdkgdkifeedcnaaRsB
import Derived.Test.YtdkgdkifeedcnaaAmU
import Derived.Test.YtdkgdkifeedcnaaAmE
import Derived.Test.YtdkgdkifeedcnaaProg
namespace Go.Am
open Go
def numQ (most : Nat) (st : RS) : Nat × RS :=
 if (st.2 || !((getF st.1).2.2 && decide ((getF st.1).1 ≤ (most : Int)))) = true then (0,(st.1,true)) else ((getF st.1).1.toNat,(st.1.drop (getF st.1).2.1,false))
def textQ (st : RS) : List UInt8 × RS := if (st.2 || !(textF st.1).2.2) = true then ([],(st.1,true)) else ((textF st.1).1,(st.1.drop (textF st.1).2.1,false))
def digQ (st : RS) : List UInt8 × RS := if (st.2 || decide (st.1.length < 32)) = true then (List.replicate 32 0,(st.1,true)) else (st.1.take 32,(st.1.drop 32,false))
def RqR (H : Heap) (C : Nat → Option AObj) (p : Nat) (st : RS) : Prop := C p = some (.var [.str st.1,.bool st.2]) ∧ H.length ≤ p
theorem numQ_le (most : Nat) (st : RS) : (numQ most st).1 ≤ most ∧ (numQ most st).2.1.length ≤ st.1.length := by
 unfold numQ
 split
 ·exact ⟨Nat.zero_le _,Nat.le_refl _⟩
 ·rename_i h
  have h2 : ((getF st.1).2.2 && decide ((getF st.1).1 ≤ (most : Int))) = true := by
   cases e : ((getF st.1).2.2 && decide ((getF st.1).1 ≤ (most : Int))) with
   | true => rfl
   | false => rw [e] at h; simp at h
  have h3 := of_decide_eq_true (Bool.and_eq_true_iff.1 h2).2
  have := (getF_ok st.1).1
  exact ⟨by show (getF st.1).1.toNat ≤ most; omega,by show (st.1.drop _).length ≤ _; rw [List.length_drop]; omega⟩
theorem textQ_le (st : RS) : (textQ st).1.length ≤ st.1.length ∧ (textQ st).2.1.length ≤ st.1.length := by
 unfold textQ
 split
 ·exact ⟨Nat.zero_le _,Nat.le_refl _⟩
 ·exact ⟨(textF_ok st.1).2,by show (st.1.drop _).length ≤ _; rw [List.length_drop]; omega⟩
theorem digQ_len (st : RS) : (digQ st).1.length = 32 := by
 unfold digQ
 split
 ·simp
 ·rename_i h
  have : ¬ st.1.length < 32 := fun e => h (by rw [decide_eq_true e,Bool.or_true])
  show (st.1.take 32).length = 32
  rw [List.length_take]; omega
theorem digQ_le (st : RS) : (digQ st).2.1.length ≤ st.1.length := by
 unfold digQ
 split
 ·exact Nat.le_refl _
 ·show (st.1.drop 32).length ≤ _
  rw [List.length_drop]; omega
section
variable {B : Base} {n : Nat} {H G : Heap} {C : Nat → Option AObj} {Q : AV → Heap → Prop} {s : List UInt8} {p : Nat} {st : RS}
theorem op_idxS {i : Nat} {c : UInt8} {K : AV → Heap → Prop} (h : s[i]? = some c) (hk : K (.int .u8 (c.toNat : Int)) G) : aop B E0 G K (.indexS (.const (.str s)) (.const (.int .i64 (i : Int)))) := by
 simp only [aop,opK,Opd.look,ob_some,pStr_str,pAny_int]
 rw [if_pos (by omega),Int.toNat_natCast,h,ob_some]
 exact hk
theorem op_dropS {i : Nat} {K : AV → Heap → Prop} (h : i ≤ s.length) (hk : K (.str (s.drop i)) G) : aop B E0 G K (.sliceS (.const (.str s)) (some (.const (.int .i64 (i : Int)))) none) := by
 simp only [aop,opK,Opd.look,ob_some,pStr_str,optK,pAny_int]
 rw [if_pos ⟨by omega,by omega,by omega⟩]
 rw [show (s.drop (i : Int).toNat).take ((s.length : Int).toNat - (i : Int).toNat) = s.drop i from by rw [Int.toNat_natCast,Int.toNat_natCast]; exact List.take_of_length_le (by rw [List.length_drop]; omega)]
 exact hk
theorem op_midS {i m : Nat} {a : Int} {K : AV → Heap → Prop} (ha : a = ((i + m : Nat) : Int)) (h : i + m ≤ s.length) (hk : K (.str ((s.drop i).take m)) G) : aop B E0 G K (.sliceS (.const (.str s)) (some (.const (.int .i64 (i : Int)))) (some (.const (.int .i64 a)))) := by
 subst ha
 simp only [aop,opK,Opd.look,ob_some,pStr_str,optK,pAny_int]
 rw [if_pos ⟨by omega,by omega,by omega⟩]
 rw [show ((i + m : Nat) : Int).toNat - (i : Int).toNat = m from by omega,Int.toNat_natCast]
 exact hk
theorem op_takeS {m : Nat} {K : AV → Heap → Prop} (h : m ≤ s.length) (hk : K (.str (s.take m)) G) : aop B E0 G K (.sliceS (.const (.str s)) none (some (.const (.int .i64 (m : Int))))) := by
 simp only [aop,opK,Opd.look,ob_some,pStr_str,optK,pAny_int]
 rw [if_pos ⟨by omega,by omega,by omega⟩]
 rw [show ((m : Int).toNat - (0 : Int).toNat) = m from by omega,show (0 : Int).toNat = 0 from rfl,List.drop_zero]
 exact hk
theorem ib_lt_iff {k : IntKind} {a b : Int} {K : AV → Prop} : ibinK .lss k a b K ↔ (a < b → K (.bool true)) ∧ (¬ a < b → K (.bool false)) := by
 constructor
 ·intro h
  have h : bs (decide (a < b)) (K (.bool true)) (K (.bool false)) := h
  rw [bs_iff] at h
  exact ⟨fun e => h.1 (decide_eq_true e),fun e => h.2 (decide_eq_false e)⟩
 ·intro h
  refine ib_lt ?_
  by_cases e : a < b
  ·rw [decide_eq_true e]; exact h.1 e
  ·rw [decide_eq_false e]; exact h.2 e
theorem mod7 (c : UInt8) : IntKind.u64.wrap (Int.tmod (c.toNat : Int) 128) = IntKind.u64.wrap (bitsOp .and IntKind.u8 (c.toNat : Int) 127) := by
 have hc : c.toNat < 256 := c.toNat_lt
 have : ∀ y : Fin 256,IntKind.u64.wrap (Int.tmod ((y.val : Nat) : Int) 128) = IntKind.u64.wrap (bitsOp .and IntKind.u8 ((y.val : Nat) : Int) 127) := by decide +kernel
 exact this ⟨c.toNat,hc⟩
theorem f85_ok (hq : Q (.tuple [.int .u64 (getF s).1,.int .i64 ((getF s).2.1 : Int),.bool (getF s).2.2]) G) : Cl B 85 [.str s] G Q := by
 refine f85_in fun n cl hn hcl hH hA => ?_
 subst hcl
 have go : ∀ (r : List UInt8) (i : Nat) (a : Int),(s.take 10).drop i = r → 0 ≤ a → Q (.tuple [.int .u64 (getGo a i r).1,.int .i64 ((getGo a i r).2.1 : Int),.bool (getGo a i r).2.2]) G → L85_7 B (Cl B) n s a (i : Int) G Q := by
  intro r
  induction r with
  | nil =>
   intro i a hd ha hq
   have := drop_nil hd
   rw [List.length_take] at this
   have stop : J85_8 B (Cl B) n G Q := J85_8_in (tidy_none hq)
   exact L85_7_in (ACall.cle B table) (bs_dec (fun h1 => bs_dec (fun h2 => by omega) fun _ => stop) fun _ => stop)
  | cons c r ih =>
   intro i a hd ha hq
   obtain ⟨g1,g2,g3⟩ := drop_cons hd
   rw [List.length_take] at g2
   have gs : s[i]? = some c := by rw [← g1,List.getElem?_take,if_pos (by omega)]
   have hc : c.toNat < 256 := c.toNat_lt
   have eni : IntKind.i64.wrap ((i : Int) + 1) = ((i + 1 : Nat) : Int) := by rw [w64 (by omega)]; omega
   refine L85_7_in (ACall.cle B table) (bs_yes (decide_eq_true (by omega)) (bs_yes (decide_eq_true (by omega)) (J85_6_in ?_)))
   rw [getGo] at hq
   have step : ∀ b : Bool,(b = true ↔ (i = 9 ∧ c.toNat > 1)) → J85_0 B (Cl B) n s a (i : Int) (.bool b) G Q := fun b hb => by
    refine J85_0_in ?_
    rw [pBool_bool]
    split
    ·rename_i e
     rw [if_pos (.inl (hb.1 e))] at hq
     exact tidy_none hq
    ·rename_i e
     have h9 : ¬ (i = 9 ∧ c.toNat > 1) := fun h => e (hb.2 h)
     refine J85_4_in (op_idxS gs ?_)
     rw [pInt_int,if_neg (by decide)]
     have e7 : IntKind.u64.wrap (IntKind.i64.wrap (7 * (i : Int))) = 7 * (i : Int) := by
      rw [w64 (by omega)]
      simp only [IntKind.wrap,IntKind.bits,IntKind.signed]
      simp; omega
     have eshf : ∀ {K : AV → Heap → Prop},K (.int .u64 (shl7 c i)) G → aop B E0 G K (.shf .shl .u64 (.const (.int .u64 (IntKind.u64.wrap (Int.tmod (c.toNat : Int) 128)))) (.const (.int .u64 (IntKind.u64.wrap (IntKind.i64.wrap (7 * (i : Int))))))) := fun {K} hk => by
      rw [e7,mod7]
      simp only [aop,opK,Opd.look,ob_some,pInt_int,pAny_int,shfK]
      rw [if_neg (by omega)]
      exact hk
     refine eshf ?_
     have hrng := (or_range a (shl7 c i)).1
     have hrec := ih (i + 1) (bitsOp .or IntKind.u64 a (shl7 c i)) g3 hrng
     rw [pInt_int]
     have idx : ∀ {K : AV → Heap → Prop},K (.int .u8 (c.toNat : Int)) G → aop B E0 G K (.indexS (.const (.str s)) (.const (.int .i64 (i : Int)))) := fun hk => op_idxS gs hk
     clear ih hb e hd g1
     generalize shl7 c i = w0 at hq hrng hrec ⊢
     refine J85_3_in (idx ?_)
     rw [pInt_int]
     generalize c.toNat = m at hq hc h9 idx ⊢
     rw [ib_lt_iff]
     constructor
     ·intro hlt
      have hlt : m < 128 := Int.ofNat_lt.1 hlt
      refine J85_2_in ?_
      rw [pBool_bool,if_pos rfl]
      have fin : ∀ b2 : Bool,(b2 = true ↔ (0 < i ∧ m = 0)) → J85_1 B (Cl B) n (bitsOp .or IntKind.u64 a w0) (i : Int) (.bool b2) G Q := fun b2 hb2 => by
       refine J85_1_in ?_
       rw [pBool_bool]
       split
       ·rename_i e2
        rw [if_pos (.inr (hb2.1 e2))] at hq
        exact tidy_none hq
       ·rename_i e2
        rw [if_neg (fun h => h.elim h9 fun h => e2 (hb2.2 h)),if_pos hlt] at hq
        rw [eni]
        exact tidy_none hq
      refine bs_dec (fun h0 => idx ?_) fun h0 => fin false ?_
      ·rw [pInt_int]
       by_cases hz : (m : Int) = 0
       ·exact ib_eq_yes hz (fin true ⟨fun _ => ⟨by omega,by omega⟩,fun _ => rfl⟩)
       ·exact ib_eq_no hz (fin false ⟨fun h => (by cases h),fun h => (by omega)⟩)
      ·constructor
       ·intro h; cases h
       ·intro h; omega
     ·intro hlt
      have hlt : ¬ m < 128 := fun h => hlt (Int.ofNat_lt.2 h)
      refine J85_2_in ?_
      rw [pBool_bool,if_neg (by decide)]
      rw [if_neg (fun h => h.elim h9 fun h => by omega),if_neg hlt] at hq
      refine J85_5_in ?_
      rw [eni]
      exact hrec hq
   refine bs_iff.2 ⟨fun h => op_idxS gs ?_,fun h => step false ?_⟩
   ·have h9 : (i : Int) = 9 := by simpa using h
    rw [pInt_int]
    by_cases hz : (c.toNat : Int) > 1
    ·exact ib_gt_yes hz (step true ⟨fun _ => ⟨by omega,by omega⟩,fun _ => rfl⟩)
    ·exact ib_gt_no hz (step false ⟨fun h => (by cases h),fun h => (by omega)⟩)
   ·have h9 : ¬ (i : Int) = 9 := by simpa using h
    constructor
    ·intro h; cases h
    ·intro h; omega
 exact go (s.take 10) 0 0 (by simp) (Int.le_refl _) hq
theorem f84_ok (hs : s.length ≤ 1000000) (hq : Q (.tuple [.str (textF s).1,.int .i64 ((textF s).2.1 : Int),.bool (textF s).2.2]) G) : Cl B 84 [.str s] G Q := by
 obtain ⟨h1,h2,h3,h4⟩ := getF_ok s
 refine f84_in fun n cl hn hcl hH hA => J84_3_in ?_
 subst hcl
 refine f85_ok (live_tuple (op_extU rfl (op_extI rfl (op_extB (b := (getF s).2.2) rfl (J84_2_in ?_)))))
 rw [pBool_bool]
 unfold textF at hq
 have bad : ((getF s).2.2 = false ∨ (getF s).1 > (s.length : Int) - ((getF s).2.1 : Int)) → J84_0 B (Cl B) n s (.int .u64 (getF s).1) (.int .i64 ((getF s).2.1 : Int)) (.bool true) G Q := fun h => J84_0_in (by
  rw [pBool_bool,if_pos rfl]
  rw [if_pos h] at hq
  exact tidy_none hq)
 refine bs_iff.2 ⟨fun hok => int_i (int_u ?_),fun hno => bad (.inl hno)⟩
 have e : IntKind.u64.wrap (IntKind.i64.wrap ((s.length : Int) - ((getF s).2.1 : Int))) = (s.length : Int) - ((getF s).2.1 : Int) := by
  rw [w64 (by omega)]
  simp only [IntKind.wrap,IntKind.bits,IntKind.signed]
  simp; omega
 rw [e]
 by_cases hgt : (getF s).1 > (s.length : Int) - ((getF s).2.1 : Int)
 ·exact ib_gt_yes hgt (bad (.inr hgt))
 refine ib_gt_no hgt (J84_0_in ?_)
 rw [pBool_bool,if_neg (by decide)]
 rw [if_neg (fun h => h.elim (fun h => by rw [hok] at h; cases h) hgt)] at hq
 refine J84_1_in (int_u (int_i ?_))
 have e1 : IntKind.i64.wrap (getF s).1 = (((getF s).1.toNat : Nat) : Int) := by rw [w64 (by omega)]; omega
 have e2 : IntKind.i64.wrap (((getF s).2.1 : Int) + (((getF s).1.toNat : Nat) : Int)) = (((getF s).2.1 + (getF s).1.toNat : Nat) : Int) := by rw [w64 (by omega)]; omega
 rw [e1,e2]
 refine op_midS rfl (by omega) (int_u (int_i ?_))
 rw [e1,e2]
 exact tidy_none hq
def RqK (H G : Heap) (C : Nat → Option AObj) (p : Nat) (st : RS) (P : Heap → (Nat → Option AObj) → Prop) : Prop := ∀ G' C',KW H G' C' → Keeps1 C C' p → RqR H C' p st → G.length ≤ G'.length → P G' C'
theorem rq_set {st' : RS} {P : Heap → (Nat → Option AObj) → Prop} (k : KW H G C) (hr : RqR H C p st) (h : RqK H G C p st' P) : P (G.set p (.var [.str st'.1,.bool st'.2])) (updC C p (.var [.str st'.1,.bool st'.2])) :=
 h _ _ (k.set hr.1 hr.2 _) Keeps1.refl.upd ⟨updC_at,hr.2⟩ (by rw [List.length_set]; exact Nat.le_refl _)
theorem f55_ok {most : Nat} (k : KW H G C) (hr : RqR H C p st) (hm : (most : Int) < 9223372036854775807) (hq : RqK H G C p (numQ most st).2 fun G' _ => Q (.int .i64 ((numQ most st).1 : Int)) G') : Cl B 55 [pt p,.int .i64 (most : Int)] G Q := by
 obtain ⟨s,w⟩ := st
 obtain ⟨h1,h2,h3,h4⟩ := getF_ok s
 have hg := k.cs p _ hr.1
 refine f55_in fun n cl hn hcl hH hA => J55_4_in (op_nil (op_fldP ?_))
 subst hcl
 rw [peekV hg (v := .str s) rfl,ob_some]
 refine str_u (f85_ok (live_tuple (op_extU rfl (op_extI rfl (op_extB (b := (getF s).2.2) rfl (J55_3_in (op_nil (op_fldP ?_))))))))
 rw [peekV hg (v := .bool w) rfl,ob_some,pBool_bool]
 have step : ∀ b : Bool,b = (w || !((getF s).2.2 && decide ((getF s).1 ≤ (most : Int)))) → J55_0 B (Cl B) n (pt p) (.int .u64 (getF s).1) (.int .i64 ((getF s).2.1 : Int)) (.bool b) G Q := fun b hb => by
  refine J55_0_in ?_
  rw [pBool_bool]
  split
  ·rename_i e
   have en : numQ most (s,w) = (0,(s,true)) := by unfold numQ; rw [if_pos (by rw [← hb]; exact e)]
   rw [en] at hq
   refine op_nil (op_fldP (op_st (c := [.str s,.bool w]) (vs := [.bool true]) rfl rfl hg (by simp) ?_))
   exact tidy_none (rq_set k hr hq)
  ·rename_i e
   have en : numQ most (s,w) = ((getF s).1.toNat,(s.drop (getF s).2.1,false)) := by unfold numQ; rw [if_neg (by rw [← hb]; exact e)]
   have hw : w = false := by cases w with
    | false => rfl
    | true => rw [hb] at e; simp at e
   rw [en] at hq
   have hle : (getF s).1 ≤ (most : Int) := by
    have e : b = false := by simpa using e
    rw [hb] at e
    have e := (Bool.or_eq_false_iff.1 e).2
    have e : ((getF s).2.2 && decide ((getF s).1 ≤ (most : Int))) = true := by simpa using e
    exact of_decide_eq_true (Bool.and_eq_true_iff.1 e).2
   refine J55_2_in (op_nil (op_fldP ?_))
   rw [peekV hg (v := .str s) rfl,ob_some]
   refine str_u (op_dropS h3 (op_nil (op_fldP (op_st (c := [.str s,.bool w]) (vs := [.str (s.drop (getF s).2.1)]) rfl rfl hg (by simp) (J55_1_in (int_u ?_))))))
   rw [w64 (by omega)]
   have := rq_set k hr hq
   subst hw
   simp only at this
   rw [show (((getF s).1.toNat : Nat) : Int) = (getF s).1 from by omega] at this
   exact tidy_none this
 refine bs_iff.2 ⟨fun hw => step true (by rw [hw]; rfl),fun hw => ?_⟩
 rw [pBool_bool]
 refine bs_iff.2 ⟨fun hok => int_u ?_,fun hno => step true (by rw [hno]; simp)⟩
 have ew : IntKind.u64.wrap (most : Int) = (most : Int) := by
  simp only [IntKind.wrap,IntKind.bits,IntKind.signed]
  simp; omega
 rw [ew]
 refine ib_gt (step _ ?_)
 rw [hw,hok,Bool.false_or,Bool.true_and]
 by_cases h : (getF s).1 ≤ (most : Int)
 ·rw [decide_eq_true h,decide_eq_false (by omega)]; rfl
 ·rw [decide_eq_false h,decide_eq_true (by omega)]; rfl
theorem f54_ok (k : KW H G C) (hr : RqR H C p st) (hs : st.1.length ≤ 1000000) (hq : RqK H G C p (textQ st).2 fun G' _ => Q (.str (textQ st).1) G') : Cl B 54 [pt p] G Q := by
 obtain ⟨s,w⟩ := st
 obtain ⟨h1,h2⟩ := textF_ok s
 have hg := k.cs p _ hr.1
 refine f54_in fun n cl hn hcl hH hA => J54_4_in (op_nil (op_fldP ?_))
 subst hcl
 rw [peekV hg (v := .str s) rfl,ob_some]
 refine str_u (f84_ok hs (live_tuple (op_extS rfl (op_extI rfl (op_extB (b := (textF s).2.2) rfl (J54_3_in (op_nil (op_fldP ?_))))))))
 rw [peekV hg (v := .bool w) rfl,ob_some,pBool_bool]
 have step : ∀ b : Bool,b = (w || !(textF s).2.2) → J54_0 B (Cl B) n (pt p) (.str (textF s).1) (.int .i64 ((textF s).2.1 : Int)) (.bool b) G Q := fun b hb => by
  refine J54_0_in ?_
  rw [pBool_bool]
  split
  ·rename_i e
   have en : textQ (s,w) = ([],(s,true)) := by unfold textQ; rw [if_pos (by rw [← hb]; exact e)]
   rw [en] at hq
   refine op_nil (op_fldP (op_st (c := [.str s,.bool w]) (vs := [.bool true]) rfl rfl hg (by simp) ?_))
   exact tidy_none (rq_set k hr hq)
  ·rename_i e
   have en : textQ (s,w) = ((textF s).1,(s.drop (textF s).2.1,false)) := by unfold textQ; rw [if_neg (by rw [← hb]; exact e)]
   have hw : w = false := by cases w with
    | false => rfl
    | true => rw [hb] at e; simp at e
   rw [en] at hq
   refine J54_2_in (op_nil (op_fldP ?_))
   rw [peekV hg (v := .str s) rfl,ob_some]
   refine str_u (op_dropS h1 (op_nil (op_fldP (op_st (c := [.str s,.bool w]) (vs := [.str (s.drop (textF s).2.1)]) rfl rfl hg (by simp) (J54_1_in ?_)))))
   have := rq_set k hr hq
   subst hw
   exact tidy_none this
 refine bs_iff.2 ⟨fun hw => step true (by rw [hw]; rfl),fun hw => op_notB (step _ (by rw [hw,Bool.false_or]))⟩
end
end Go.Am
namespace Go.Am
open Go
def goQ {α : Type} (one : RS → α × RS) : Nat → List α → RS → List α × RS
 | 0,acc,st => (acc,st)
 | k + 1,acc,st => if st.2 = true then (acc,st) else goQ one k (acc ++ [(one st).1]) (one st).2
def listQ {α : Type} (one : RS → α × RS) (most : Nat) (st : RS) : List α × RS := goQ one (numQ most st).1 [] (numQ most st).2
theorem goQ_le {α : Type} {one : RS → α × RS} (h : ∀ st,(one st).2.1.length ≤ st.1.length) : ∀ k acc st,(goQ one k acc st).2.1.length ≤ st.1.length ∧ (goQ one k acc st).1.length ≤ acc.length + k
 | 0,acc,st => by simp [goQ]
 | k + 1,acc,st => by
  simp only [goQ]
  split
  ·simp
  ·have := goQ_le h k (acc ++ [(one st).1]) (one st).2
   have h2 := h st
   rw [List.length_append,List.length_singleton] at this
   omega
theorem listQ_le {α : Type} {one : RS → α × RS} (h : ∀ st,(one st).2.1.length ≤ st.1.length) (most : Nat) (st : RS) : (listQ one most st).2.1.length ≤ st.1.length ∧ (listQ one most st).1.length ≤ most := by
 have h1 := goQ_le h (numQ most st).1 [] (numQ most st).2
 have h2 := numQ_le most st
 unfold listQ
 simp only [List.length_nil] at h1
 omega
theorem goQ_all {α : Type} {one : RS → α × RS} {P : α → Prop} {N : Nat} (h : ∀ st : RS,st.1.length ≤ N → P (one st).1) (hle : ∀ st,(one st).2.1.length ≤ st.1.length) : ∀ k acc (st : RS),st.1.length ≤ N → (∀ x,x ∈ acc → P x) → ∀ x,x ∈ (goQ one k acc st).1 → P x
 | 0,acc,st,_,ha => ha
 | k + 1,acc,st,hs,ha => by
  simp only [goQ]
  split
  ·exact ha
  ·refine goQ_all h hle k _ _ (Nat.le_trans (hle st) hs) fun x hx => ?_
   rcases List.mem_append.1 hx with hx | hx
   ·exact ha x hx
   ·rw [List.mem_singleton.1 hx]; exact h st hs
theorem listQ_all {α : Type} {one : RS → α × RS} {P : α → Prop} {N most : Nat} (h : ∀ st : RS,st.1.length ≤ N → P (one st).1) (hle : ∀ st,(one st).2.1.length ≤ st.1.length) {st : RS} (hs : st.1.length ≤ N) : ∀ x,x ∈ (listQ one most st).1 → P x :=
 goQ_all h hle _ _ _ (Nat.le_trans (numQ_le most st).2 hs) fun x hx => by cases hx
structure Lst (H : Heap) (C0 : Nat → Option AObj) (k0 p : Nat) {α : Type} (es : Nat) (E : MM → List AV → α → Prop) (G : Heap) (C : Nat → Option AObj) (st : RS) (v : AV) (cs : List (List AV)) (acc : List α) : Prop where
 k : KW H G C
 e : Keeps1 C0 C p
 r : RqR H C p st
 a : AccA H G C k0 es v cs
 f : F2 (E (SlF C k0)) cs acc
 hk : k0 ≤ G.length
abbrev EMono {α : Type} (E : MM → List AV → α → Prop) : Prop := ∀ (M M' : MM) x a,(∀ es v rows,M es v rows → M' es v rows) → E M x a → E M' x a
section
variable {B : Base} {n : Nat} {H G : Heap} {C C0 : Nat → Option AObj} {Q : AV → Heap → Prop} {s : List UInt8} {p k0 es : Nat} {st : RS} {α : Type} {E : MM → List AV → α → Prop} {v : AV} {cs : List (List AV)} {acc : List α}
theorem RqR.keep {C' : Nat → Option AObj} (h : RqR H C p st) (hc : ∀ o,C p = some o → C' p = some o) : RqR H C' p st := ⟨hc _ h.1,h.2⟩
theorem Lst.zero (k : KW H G C) (e : Keeps1 C0 C p) (r : RqR H C p st) (hk : k0 ≤ G.length) : Lst H C0 k0 p es E G C st .nils [] [] := ⟨k,e,r,⟨fun r hr => by simp at hr,.inl ⟨rfl,rfl⟩⟩,F2.nil,hk⟩
theorem Lst.call (hE : EMono E) (z : Lst H C0 k0 p es E G C st v cs acc) : ∃ C1,KW H G C1 ∧ (∀ j o,C j = some o → C1 j = some o) ∧ RqR H C1 p st ∧
  ∀ G2 C2 st2,KW H G2 C2 → Keeps1 C1 C2 p → RqR H C2 p st2 → G.length ≤ G2.length → ∃ C3,Lst H C0 k0 p es E G2 C3 st2 v cs acc ∧ Keeps1 C C3 p ∧ (∀ j o,G.length ≤ j → C2 j = some o → C3 j = some o) := by
 obtain ⟨C1,k1,s1,t1,back⟩ := z.a.back z.k z.r.1
 refine ⟨C1,k1,s1,z.r.keep fun o => s1 p o,fun G2 C2 st2 k2 e2 r2 l2 => ?_⟩
 obtain ⟨C3,k3,a3,sup⟩ := back G2 C2 k2 e2
 have keep : Keeps1 C C3 p := fun q o hqp hcq => sup q o (.inr (by rw [hcq]; simp)) (e2 q o hqp (s1 q o hcq))
 have ka : ∀ j o,C j = some (.arr o) → C3 j = some (.arr o) := fun j o hj => keep j _ (fun ej => by subst ej; rw [z.r.1] at hj; cases hj) hj
 refine ⟨C3,⟨k3,z.e.trans keep,r2.keep fun o => sup p o (.inr (by rw [z.r.1]; simp)),a3,z.f.mono fun x a hx => hE _ _ x a (fun es v rows hv => hv.mono (Nat.le_refl _) fun j o _ hj => ka j o hj) hx,Nat.le_trans z.hk l2⟩,keep,fun j o hj hc => sup j o (.inl hj) hc⟩
theorem Lst.add (hE : EMono E) (z : Lst H C0 k0 p es E G C st v cs acc) (o : AObj) : Lst H C0 k0 p es E (G ++ [o]) (updC C G.length o) st v cs acc :=
 ⟨z.k.add o,fun q o' hq h => keeps_add z.k q o' (z.e q o' hq h),z.r.keep fun o' => keeps_add z.k p o',z.a.addC,z.f.mono fun x a hx => hE _ _ x a (SlF.add z.k) hx,by have := z.hk; rw [List.length_append]; omega⟩
theorem Lst.grow (z : Lst H C0 k0 p es E G C st v cs acc) (L : List AObj) : Lst H C0 k0 p es E (G ++ L) C st v cs acc :=
 ⟨z.k.grow L,z.e,z.r,z.a.grow,z.f,by have := z.hk; rw [List.length_append]; omega⟩
theorem Lst.setv (hE : EMono E) (z : Lst H C0 k0 p es E G C st v cs acc) {x : Nat} {c c' : List AV} (hx : C x = some (.var c)) (h0 : C0 x = none) (hH : H.length ≤ x) (hxp : x ≠ p) : Lst H C0 k0 p es E (G.set x (.var c')) (updC C x (.var c')) st v cs acc :=
 ⟨z.k.set hx hH _,fun q o hq h => by rw [updC_ne (fun e => by subst e; rw [h0] at h; cases h)]; exact z.e q o hq h,z.r.keep fun o h => by rw [updC_ne (Ne.symm hxp)]; exact h,z.a.set hx,z.f.mono fun y a hy => hE _ _ y a (SlF.upd hx) hy,by have := z.hk; rw [List.length_set]; exact this⟩
theorem Lst.app (z : Lst H C0 k0 p es E G C st v cs acc) {bytes : Nat} {row : List AV} {x : α} {K : AV → Heap → Prop} (hrow : row.length = es) (hx : E (SlF C k0) row x) (hb : (cs.length + 1) * bytes ≤ maxBytes)
  (hk : ∀ v' G',Lst H C0 k0 p es E G' C st v' (cs ++ [row]) (acc ++ [x]) → K v' G') : aop B E0 (G ++ [.arr row]) K (.append es bytes (.const v) (.const (.slice (.new G.length) 0 1 es (some 1)))) := by
 have z1 := z.grow [.arr row]
 refine op_appA z1.k z1.a z1.hk (sl_one hrow) (by simp) (by simp only [List.length_singleton]; exact hb) fun v' G' k' a' l' => hk v' G' ⟨k',z.e,z.r,a',F2.snoc z.f hx,Nat.le_trans z1.hk l'⟩
theorem Lst.done (hE : EMono E) (z : Lst H C0 k0 p es E G C st v cs acc) : ∃ C2,KW H G C2 ∧ (∀ j o,C j = some o → C2 j = some o) ∧ RqR H C2 p st ∧ LE es E (SlF C2 k0) v acc := by
 obtain ⟨C2,k2,s2,t2⟩ := z.a.done z.k
 exact ⟨C2,k2,s2,z.r.keep fun o => s2 p o,cs,t2,z.f.mono fun x a hx => hE _ _ x a (fun es v rows hv => hv.mono (Nat.le_refl _) fun j o _ hj => s2 j _ hj) hx⟩
theorem f105_ok (k : KW H G C) (hr : RqR H C p st) (hq : RqK H G C p (digQ st).2 fun G' _ => Q (.agg (dg (digQ st).1)) G') : Cl B 105 [pt p] G Q := by
 obtain ⟨s,w⟩ := st
 refine f105_in fun n cl hn hcl hH hA => op_alloc (J105_4_in (op_alloc ?_))
 subst hcl
 simp only [zeros_row]
 have k1 := k.add (.var (dg (List.replicate 32 0)))
 have k2 := k1.add (.var (dg (List.replicate 32 0)))
 have hp := k.lt hr.1
 have e1 : (G ++ [AObj.var (dg (List.replicate 32 0))]).length = G.length + 1 := by simp
 have sub : ∀ q o,C q = some o → updC (updC C G.length (.var (dg (List.replicate 32 0)))) (G ++ [AObj.var (dg (List.replicate 32 0))]).length (.var (dg (List.replicate 32 0))) q = some o := fun q o h => keeps_add k1 q o (keeps_add k q o h)
 have c1 := keeps_add (o := .var (dg (List.replicate 32 0))) k1 _ _ (updC_at (C := C) (p := G.length) (o := .var (dg (List.replicate 32 0))))
 have c2 : updC (updC C G.length (.var (dg (List.replicate 32 0)))) (G ++ [AObj.var (dg (List.replicate 32 0))]).length (.var (dg (List.replicate 32 0))) (G ++ [AObj.var (dg (List.replicate 32 0))]).length = some (.var (dg (List.replicate 32 0))) := updC_at
 have hxG : ∀ q o,C q = some o → q ≠ G.length := fun q o h => by have := k.lt h; omega
 have hHG := k.le
 have hl2 : G.length ≤ (G ++ [AObj.var (dg (List.replicate 32 0))] ++ [AObj.var (dg (List.replicate 32 0))]).length := by simp
 have hxr : ∀ q o,C q = some o → q ≠ (G ++ [AObj.var (dg (List.replicate 32 0))]).length := fun q o h => by have := k.lt h; omega
 have h12 : G.length ≠ (G ++ [AObj.var (dg (List.replicate 32 0))]).length := by omega
 have hr1 : H.length ≤ (G ++ [AObj.var (dg (List.replicate 32 0))]).length := by omega
 generalize (G ++ [AObj.var (dg (List.replicate 32 0))]).length = x3 at k2 sub c1 c2 hxr h12 hr1 ⊢
 generalize updC (updC C G.length (.var (dg (List.replicate 32 0)))) x3 (.var (dg (List.replicate 32 0))) = C2 at k2 sub c1 c2
 generalize G ++ [AObj.var (dg (List.replicate 32 0))] ++ [AObj.var (dg (List.replicate 32 0))] = G2 at k2 hl2 ⊢
 have hg := k2.cs p _ (sub _ _ hr.1)
 have ret : ∀ (M : Heap) (D : Nat → Option AObj) (d : List UInt8) (st' : RS),KW H M D → (∀ q o,q ≠ p → q ≠ x3 → C2 q = some o → D q = some o) → D p = some (.var [.str st'.1,.bool st'.2]) → D x3 = some (.var (dg d)) → d.length = 32 → G.length ≤ M.length → (digQ (s,w)) = (d,st') →
   ob (peekN B M 32 (pt x3)) fun c19 => (aop B E0 M (fun _ H21 => ob (peekN B H21 32 (pt G.length)) fun c22 => tidyK n Q (.agg c22) H21) (.st 32 (.const (pt G.length)) (.const (.agg c19)))) := fun M D d st' kD hD hDp hD3 hd hM hde => by
  have hpG : p ≠ G.length := hxG _ _ hr.1
  have hDG : D G.length = some (.var (dg (List.replicate 32 0))) := hD _ _ (Ne.symm hpG) h12 c1
  rw [show peekN B M 32 (pt x3) = some (dg d) from peekVN (kD.cs _ _ hD3) (by rw [dg_len]; exact hd),ob_some]
  refine op_st (c := dg (List.replicate 32 0)) (vs := dg d) rfl (by rw [dg_len]; exact hd) (kD.cs _ _ hDG) (by rw [dg_len,List.length_replicate]; exact Nat.le_refl _) ?_
  have k3 := kD.set hDG hHG (.var (dg d))
  rw [putAt_all (by rw [dg_len,dg_len,List.length_replicate,hd]),show peekN B (M.set G.length (.var (dg d))) 32 (pt G.length) = some (dg d) from peekVN (k3.cs _ _ updC_at) (by rw [dg_len]; exact hd),ob_some]
  rw [hde] at hq
  refine tidy_none (hq _ _ k3 (fun q o hqp hcq => ?_) ⟨by rw [updC_ne hpG]; exact hDp,hr.2⟩ (by rw [List.length_set]; exact hM))
  rw [updC_ne (hxG q o hcq)]
  exact hD q o hqp (hxr q o hcq) (sub q o hcq)
 refine J105_3_in (op_nil (op_fldP ?_))
 rw [peekV hg (v := .bool w) rfl,ob_some,pBool_bool]
 have hpx3 : p ≠ x3 := hxr _ _ hr.1
 have step : ∀ b : Bool,b = (w || decide (s.length < 32)) → J105_0 B (Cl B) n (pt p) (pt G.length) (pt x3) (.bool b) G2 Q := fun b hb => by
  refine J105_0_in ?_
  rw [pBool_bool]
  split
  ·rename_i e
   refine op_nil (op_fldP (op_st (c := [.str s,.bool w]) (vs := [.bool true]) rfl rfl hg (by simp) ?_))
   rw [show putAt [AV.str s,.bool w] (0 + 1) [.bool true] = [.str s,.bool true] from rfl]
   refine ret _ (updC C2 p (.var [.str s,.bool true])) (List.replicate 32 0) (s,true) (k2.set (sub _ _ hr.1) hr.2 _) (fun q o h1 _ h3 => by rw [updC_ne h1]; exact h3) updC_at (by rw [updC_ne (Ne.symm hpx3)]; exact c2) (by simp) (by rw [List.length_set]; exact hl2) ?_
   unfold digQ; rw [if_pos (by rw [← hb]; exact e)]
  ·rename_i e
   have hw : w = false := by cases w with
    | false => rfl
    | true => rw [hb] at e; simp at e
   have h32 : ¬ s.length < 32 := fun h => e (by rw [hb,decide_eq_true h,Bool.or_true])
   refine J105_2_in ?_
   have hsl : ∀ K' : AV → Heap → Prop,K' (.slice (.new x3) 0 32 1 (some 32)) G2 → aop B E0 G2 K' (.sliceA 32 1 (.const (pt x3)) none none) := fun K' h => h
   refine hsl _ (op_nil (op_fldP ?_))
   rw [peekV hg (v := .str s) rfl,ob_some]
   refine str_u (op_takeS (m := 32) (by omega) ?_)
   have hcp : ∀ K' : AV → Heap → Prop,K' (.int .i64 32) (G2.set x3 (.var (dg (s.take 32)))) → aop B E0 G2 K' (.copyL 1 (.const (.slice (.new x3) 0 32 1 (some 32))) (.const (.str (s.take 32)))) := fun K' h => by
    have hl : (s.take 32).length = 32 := by rw [List.length_take]; omega
    simp only [aop,opK,Opd.look,ob_some,lenOf]
    rw [if_pos trivial]
    show (if (1 : Nat) = 1 then ob (pokeAt G2 (.new x3) 0 (cellsOfBytes ((s.take 32).take (min (s.take 32).length 32)))) fun H' => K' (.int .i64 (min (s.take 32).length 32 : Nat)) H' else False)
    rw [if_pos rfl,hl,show (s.take 32).take (min 32 32) = s.take 32 from List.take_of_length_le (by omega),← brws_cells]
    have hg3 := k2.cs _ _ c2
    have hd : ((s.take 32).map brw).flatten = dg (s.take 32) := rfl
    simp only [pokeAt,hg3,hd]
    rw [if_pos (by rw [dg_len,dg_len,List.length_replicate,hl]; omega),ob_some,putAt_all (by rw [dg_len,dg_len,List.length_replicate,hl])]
    exact h
   refine hcp _ (J105_1_in (op_nil (op_fldP ?_)))
   have k3 := k2.set c2 hr1 (.var (dg (s.take 32)))
   have hg3 : (G2.set x3 (.var (dg (s.take 32))))[p]? = some (.var [.str s,.bool w]) := k3.cs p _ (by rw [updC_ne hpx3]; exact sub _ _ hr.1)
   rw [peekV hg3 (v := .str s) rfl,ob_some]
   refine str_u (op_dropS (i := 32) (by omega) (op_nil (op_fldP (op_st (c := [.str s,.bool w]) (vs := [.str (s.drop 32)]) rfl rfl hg3 (by simp) ?_))))
   rw [show putAt [AV.str s,.bool w] (0 + 0) [.str (s.drop 32)] = [.str (s.drop 32),.bool w] from rfl]
   refine ret _ (updC (updC C2 x3 (.var (dg (s.take 32)))) p (.var [.str (s.drop 32),.bool w])) (s.take 32) (s.drop 32,w) (k3.set (by rw [updC_ne hpx3]; exact sub _ _ hr.1) hr.2 _) (fun q o h1 h2 h3 => by rw [updC_ne h1,updC_ne h2]; exact h3) updC_at (by rw [updC_ne (Ne.symm hpx3)]; exact updC_at) (by rw [List.length_take]; omega) (by rw [List.length_set,List.length_set]; exact hl2) ?_
   unfold digQ; rw [if_neg (by rw [← hb]; exact e),hw]
 refine bs_iff.2 ⟨fun hw => step true (by rw [hw]; rfl),fun hw => op_nil (op_fldP ?_)⟩
 rw [peekV hg (v := .str s) rfl,ob_some]
 refine str_u ?_
 by_cases h32 : (s.length : Int) < 32
 ·exact ib_lt_yes h32 (step true (by rw [decide_eq_true (by omega),Bool.or_true]))
 ·exact ib_lt_no h32 (step false (by rw [hw,decide_eq_false (by omega)]; rfl))
end
end Go.Am
namespace Go.Am
open Go
def pathQ (st : RS) : List (List UInt8) × RS := listQ digQ 64 st
def opQ (st : RS) : Opn × RS := (⟨((numQ 1099511627776 st).1 : Int),(textQ (numQ 1099511627776 st).2).1,(pathQ (textQ (numQ 1099511627776 st).2).2).1⟩,(pathQ (textQ (numQ 1099511627776 st).2).2).2)
def ptQ (st : RS) : Pnt × RS :=
 if (numQ 1 st).1 = 1 then (⟨true,(opQ (numQ 1 st).2).1,(opQ (opQ (numQ 1 st).2).2).1⟩,(opQ (opQ (numQ 1 st).2).2).2)
 else (⟨false,(opQ (numQ 1 st).2).1,⟨0,[],[]⟩⟩,(opQ (numQ 1 st).2).2)
def spQ (st : RS) : Spn × RS := (⟨((numQ 1099511627776 st).1 : Int),(listQ textQ 64 (numQ 1099511627776 st).2).1,(pathQ (listQ textQ 64 (numQ 1099511627776 st).2).2).1⟩,(pathQ (listQ textQ 64 (numQ 1099511627776 st).2).2).2)
theorem pathQ_le (st : RS) : (pathQ st).2.1.length ≤ st.1.length := (listQ_le digQ_le 64 st).1
theorem opQ_le (st : RS) : (opQ st).2.1.length ≤ st.1.length := Nat.le_trans (pathQ_le _) (Nat.le_trans (textQ_le _).2 (numQ_le _ _).2)
theorem ptQ_le (st : RS) : (ptQ st).2.1.length ≤ st.1.length := by
 unfold ptQ
 split
 ·exact Nat.le_trans (opQ_le _) (Nat.le_trans (opQ_le _) (numQ_le _ _).2)
 ·exact Nat.le_trans (opQ_le _) (numQ_le _ _).2
theorem spQ_le (st : RS) : (spQ st).2.1.length ≤ st.1.length := Nat.le_trans (pathQ_le _) (Nat.le_trans (listQ_le (fun st => (textQ_le st).2) 64 _).1 (numQ_le _ _).2)
theorem dig_mono : EMono (fun (_ : MM) (x : List AV) (d : List UInt8) => x = dg d) := fun _ _ _ _ _ h => h
theorem pt_mono : EMono PtM := fun _ _ _ _ h hx => hx.mono h
theorem sn_mono : EMono SnM := fun _ _ _ _ h hx => hx.mono h
abbrev LfE : MM → List AV → List UInt8 → Prop := fun M x t => ∃ u,x = [u] ∧ BsM M u t
theorem lf_mono : EMono LfE := fun _ _ _ _ h ⟨u,e,hx⟩ => ⟨u,e,h _ _ _ hx⟩
theorem le_pathQ {M : MM} {v : AV} {l : List (List UInt8)} (h : LE 32 (fun _ x d => x = dg d) M v l) : PathM M v l := by
 obtain ⟨cs,h1,h2⟩ := h
 have : cs = l.map dg := by
  refine List.ext_getElem? fun i => ?_
  rw [List.getElem?_map]
  rcases Nat.lt_or_ge i cs.length with hi | hi
  ·have hi2 : i < l.length := by rw [← h2.1]; exact hi
   rw [List.getElem?_eq_getElem hi,List.getElem?_eq_getElem hi2,h2.2 i _ _ (List.getElem?_eq_getElem hi) (List.getElem?_eq_getElem hi2)]
   rfl
  ·rw [List.getElem?_eq_none hi,List.getElem?_eq_none (by rw [← h2.1]; exact hi)]; rfl
 rw [this] at h1; exact h1
theorem le_lv {M : MM} {v : AV} {l : List (List UInt8)} (h : LE 1 LfE M v l) : LV BsM M v l := by
 obtain ⟨cs,h1,h2⟩ := h
 have hd : ∀ x,x ∈ cs → [x.headD .nils] = x := fun x hx => by
  obtain ⟨i,hi⟩ := List.mem_iff_getElem?.1 hx
  have hi2 : i < l.length := by rw [← h2.1]; exact in_some hi
  obtain ⟨u,e,_⟩ := h2.2 i x _ hi (List.getElem?_eq_getElem hi2)
  rw [e]; rfl
 refine ⟨cs.map fun x => x.headD .nils,?_,by simp [h2.1],fun i u t hu ht => ?_⟩
 ·rw [List.map_map]
  have : (cs.map ((fun u => [u]) ∘ fun x : List AV => x.headD .nils)) = cs := by
   conv => rhs; rw [← List.map_id cs]
   exact List.map_congr_left fun x hx => hd x hx
  rw [this]; exact h1
 ·rw [List.getElem?_map] at hu
  obtain ⟨x,hx,rfl⟩ := Option.map_eq_some_iff.1 hu
  obtain ⟨u,e,hb⟩ := h2.2 i x t hx ht
  rw [e]; exact hb
section
variable {B : Base} {n : Nat} {H G : Heap} {C : Nat → Option AObj} {Q : AV → Heap → Prop} {p : Nat} {st : RS}
def RqE {X α : Type} (H G : Heap) (C : Nat → Option AObj) (p : Nat) (E : MM → X → α → Prop) (r : α × RS) (P : X → Heap → Prop) : Prop := ∀ x G' C',KW H G' C' → Keeps1 C C' p → RqR H C' p r.2 → G.length ≤ G'.length → E (SlF C' G.length) x r.1 → P x G'
theorem f93_ok (k : KW H G C) (hr : RqR H C p st) (hq : RqE H G C p PathM (pathQ st) Q) : Cl B 93 [pt p] G Q := by
 have hbig : maxBytes = 140737488355328 := rfl
 refine f93_in fun n cl hn hcl hH hA => ?_
 subst hcl
 have hm := (numQ_le 64 st).1
 refine f55_ok (most := 64) k hr (by decide) fun G1 C1 k1 e1 r1 l1 => int_i ?_
 have go : ∀ (f i : Nat) (G' : Heap) (C' : Nat → Option AObj) (v : AV) (cs : List (List AV)) (acc : List (List UInt8)) (st' : RS),i + f = (numQ 64 st).1 → cs.length = i → Lst H C G.length p 32 (fun _ x d => x = dg d) G' C' st' v cs acc → goQ digQ f acc st' = pathQ st → L93_0 B (Cl B) n (pt p) ((numQ 64 st).1 : Int) v (i : Int) G' Q := by
  intro f
  have fin : ∀ (G' : Heap) (C' : Nat → Option AObj) (v : AV) (cs : List (List AV)) (acc : List (List UInt8)) (st' : RS),Lst H C G.length p 32 (fun _ x d => x = dg d) G' C' st' v cs acc → (acc,st') = pathQ st → J93_1 B (Cl B) n v G' Q := fun G' C' v cs acc st' z he => by
   obtain ⟨C2,k2,s2,r2,le⟩ := z.done dig_mono
   rw [← he] at hq
   exact J93_1_in (tidy_none (hq v G' C2 k2 (fun q o hq hc => s2 q o (z.e q o hq hc)) r2 z.hk (le_pathQ le)))
  induction f with
  | zero =>
   intro i G' C' v cs acc st' hif hl z hgo
   exact L93_0_in (ACall.cle B table) (bs_no (decide_eq_false (by omega)) (fin G' C' v cs acc st' z hgo))
  | succ f ih =>
   intro i G' C' v cs acc st' hif hl z hgo
   refine L93_0_in (ACall.cle B table) (bs_yes (decide_eq_true (by omega)) (op_nil (op_fldP ?_)))
   rw [peekV (z.k.cs p _ z.r.1) (v := .bool st'.2) rfl,ob_some,pBool_bool]
   refine bs_iff.2 ⟨fun hw => fin G' C' v cs acc st' z (by simpa only [goQ,hw,if_true] using hgo),fun hw => ?_⟩
   simp only [goQ,hw] at hgo
   obtain ⟨D1,kD,sD,rD,back⟩ := z.call dig_mono
   refine f105_ok kD rD fun G2 D2 k2 e2 r2 l2 => live_agg' (op_alloc ?_)
   obtain ⟨C3,z3,keep3,_⟩ := back G2 D2 _ k2 e2 r2 l2
   simp only [zeros_row]
   have hlen := digQ_len st'
   have z4 := z3.add dig_mono (.var (dg (digQ st').1))
   refine op_st_last (by rw [dg_len,List.length_replicate]) (by rw [dg_len]; exact hlen) ?_
   rw [peekVN (n := 32) (by rw [get_app0]; rfl) (by rw [dg_len]; exact hlen),ob_some,lay_row (n := 32) (by rw [dg_len,List.length_replicate]) (by rw [dg_len]; exact hlen),ob_some]
   refine slK_in ?_
   refine z4.app (x := (digQ st').1) (row := dg (digQ st').1) (by rw [dg_len]; exact hlen) rfl (by rw [hl]; omega) fun v' G4 z5 => ?_
   rw [w64 (by omega)]
   exact ih (i + 1) G4 _ v' _ _ _ (by omega) (by rw [List.length_append,hl]; rfl) z5 hgo
 exact go (numQ 64 st).1 0 G1 C1 .nils [] [] _ (Nat.zero_add _) rfl (Lst.zero k1 e1 r1 l1) rfl
theorem f92_ok (k : KW H G C) (hr : RqR H C p st) (hs : st.1.length ≤ 1000000) (hq : RqE H G C p OpM (opQ st) fun x G' => Q (.agg x) G') : Cl B 92 [pt p] G Q := by
 refine f92_in fun n cl hn hcl hH hA => op_alloc ?_
 subst hcl
 have hp := k.lt hr.1
 have k1 := k.add (.var [.int .i64 0,.nils,.nils])
 have e1 := keeps_add (o := .var [.int .i64 0,.nils,.nils]) k
 have c1 : updC C G.length (.var [.int .i64 0,.nils,.nils]) G.length = some (.var [.int .i64 0,.nils,.nils]) := updC_at
 have hfr : ∀ q o,C q = some o → q ≠ G.length := fun q o h => by have := k.lt h; omega
 have hG := k.le
 have hGl : G.length ≤ (G ++ [AObj.var [.int .i64 0,.nils,.nils]]).length := by simp
 generalize updC C G.length (.var [.int .i64 0,.nils,.nils]) = C1 at k1 e1 c1
 generalize G ++ [AObj.var [.int .i64 0,.nils,.nils]] = G1 at k1 hGl ⊢
 have hne : p ≠ G.length := by omega
 refine f55_ok (most := 1099511627776) k1 (hr.keep fun o => e1 p o) (by decide) fun G2 C2 k2 e2 r2 l2 => int_i ?_
 have hs2 := (numQ_le 1099511627776 st).2
 refine f54_ok k2 r2 (by omega) fun G3 C3 k3 e3 r3 l3 => str_u ?_
 have hs3 := (textQ_le (numQ 1099511627776 st).2).2
 refine f93_ok k3 r3 fun v4 G4 C4 k4 e4 r4 l4 hp4 => live_slF hp4 (op_toBy k4 fun G5 k5 l5 b5 => ?_)
 have hp5 := SlF.add (o := .arr ((textQ (numQ 1099511627776 st).2).1.map brw).flatten) k4 _ _ _ hp4
 have c5 := keeps_add (o := .arr ((textQ (numQ 1099511627776 st).2).1.map brw).flatten) k4 _ _ (e4 _ _ (Ne.symm hne) (e3 _ _ (Ne.symm hne) (e2 _ _ (Ne.symm hne) c1)))
 have r5 := r4.keep (C' := updC C4 G4.length (.arr ((textQ (numQ 1099511627776 st).2).1.map brw).flatten)) fun o => keeps_add k4 p o
 have e5 : ∀ q o,q ≠ p → C q = some o → updC C4 G4.length (.arr ((textQ (numQ 1099511627776 st).2).1.map brw).flatten) q = some o := fun q o h1 h2 => keeps_add k4 q o (e4 q o h1 (e3 q o h1 (e2 q o h1 (e1 q o h2))))
 generalize updC C4 G4.length (.arr ((textQ (numQ 1099511627776 st).2).1.map brw).flatten) = C5 at k5 b5 hp5 c5 r5 e5
 generalize AV.slice (.new G4.length) 0 (textQ (numQ 1099511627776 st).2).1.length 1 none = lv at b5 ⊢
 rw [show layParts [(.int .i64 0),.nils,.nils] [(0,1,.int .i64 ((numQ 1099511627776 st).1 : Int)),(1,1,lv),(2,1,v4)] = some [.int .i64 ((numQ 1099511627776 st).1 : Int),lv,v4] from by
  obtain rfl | ⟨_,_,_,_,rfl⟩ := b5.isL <;> obtain rfl | ⟨_,_,_,_,rfl⟩ := hp5.isL <;> rfl,ob_some]
 refine op_st (c := [.int .i64 0,.nils,.nils]) (vs := [.int .i64 ((numQ 1099511627776 st).1 : Int),lv,v4]) rfl rfl (k5.cs _ _ c5) (by simp) ?_
 have k6 := k5.set c5 hG (.var [.int .i64 ((numQ 1099511627776 st).1 : Int),lv,v4])
 rw [putAt_all (show ([.int .i64 0,.nils,.nils] : List AV).length = [AV.int .i64 ((numQ 1099511627776 st).1 : Int),lv,v4].length from rfl),peekVN (n := 3) (k6.cs _ _ updC_at) rfl,ob_some]
 refine tidy_none (hq _ _ _ k6 (fun q o h1 h2 => by rw [updC_ne (hfr q o h2)]; exact e5 q o h1 h2) (r5.keep fun o h => by rw [updC_ne hne]; exact h) (by rw [List.length_set]; omega) ⟨lv,v4,rfl,SlF.upd c5 _ _ _ (SlF.low (by omega) _ _ _ b5),SlF.upd c5 _ _ _ (SlF.low (by omega) _ _ _ hp5)⟩)
theorem f57_ok (k : KW H G C) (hr : RqR H C p st) (hs : st.1.length ≤ 1000000) (hq : RqE H G C p PtM (ptQ st) fun x G' => Q (.agg x) G') : Cl B 57 [pt p] G Q := by
 let z7 : List AV := [.bool false,.int .i64 0,.nils,.nils,.int .i64 0,.nils,.nils]
 refine f57_in fun n cl hn hcl hH hA => op_alloc ?_
 subst hcl
 have hp := k.lt hr.1
 have k1 := k.add (.var z7)
 have e1 := keeps_add (o := .var z7) k
 have c1 : updC C G.length (.var z7) G.length = some (.var z7) := updC_at
 have hfr : ∀ q o,C q = some o → q ≠ G.length := fun q o h => by have := k.lt h; omega
 have hG := k.le
 have hGl : G.length < (G ++ [AObj.var z7]).length := by simp
 have hne : p ≠ G.length := by omega
 refine f55_ok (most := 1) k1 (hr.keep fun o => e1 p o) (by decide) fun G2 C2 k2 e2 r2 l2 => int_i (ib_eq ?_)
 have hs2 := (numQ_le 1 st).2
 have l2' : G.length < G2.length := by
  rw [List.length_append] at l2
  simp only [List.length_singleton] at l2
  omega
 refine f92_ok k2 r2 (by omega) fun ca G3 C3 k3 e3 r3 l3 ha => live_agg' ?_
 have hca := ha.three
 have hbt : decide (((numQ 1 st).1 : Int) = 1) = decide ((numQ 1 st).1 = 1) := by
  by_cases h : (numQ 1 st).1 = 1
  ·rw [decide_eq_true h,decide_eq_true (by omega)]
  ·rw [decide_eq_false h,decide_eq_false (by omega)]
 rw [hbt]
 generalize hb : decide ((numQ 1 st).1 = 1) = bt
 have hlay : layParts [(.bool false),(.int .i64 0),.nils,.nils,(.int .i64 0),.nils,.nils] [(0,1,.bool bt),(1,3,.agg ca)] = some (.bool bt :: (ca ++ [.int .i64 0,.nils,.nils])) := by
  obtain ⟨_,_,rfl,_⟩ := ha; rfl
 rw [hlay,ob_some]
 have hl7 : (AV.bool bt :: (ca ++ [.int .i64 0,.nils,.nils])).length = 7 := by simp [hca]
 refine op_alloc (op_st_last rfl hl7 ?_)
 have k4 := k3.add (.var (.bool bt :: (ca ++ [.int .i64 0,.nils,.nils])))
 have c4 : updC C3 G3.length (.var (.bool bt :: (ca ++ [.int .i64 0,.nils,.nils]))) G3.length = some (.var (.bool bt :: (ca ++ [.int .i64 0,.nils,.nils]))) := updC_at
 have c14 := keeps_add (o := .var (.bool bt :: (ca ++ [.int .i64 0,.nils,.nils]))) k3 _ _ (e3 _ _ (Ne.symm hne) (e2 _ _ (Ne.symm hne) c1))
 have r4 := r3.keep (C' := updC C3 G3.length (.var (.bool bt :: (ca ++ [.int .i64 0,.nils,.nils])))) fun o => keeps_add k3 p o
 have e4 : ∀ q o,q ≠ p → C q = some o → updC C3 G3.length (.var (.bool bt :: (ca ++ [.int .i64 0,.nils,.nils]))) q = some o := fun q o h1 h2 => keeps_add k3 q o (e3 q o h1 (e2 q o h1 (e1 q o h2)))
 have ha4 := ha.mono (SlF.add (o := .var (.bool bt :: (ca ++ [.int .i64 0,.nils,.nils]))) k3)
 have hG3 : G.length < G3.length := by omega
 have hfr3 : ∀ q o,C q = some o → q ≠ G3.length := fun q o h => by have := k.lt h; omega
 have hp3 : p ≠ G3.length := by omega
 have hl4 : G.length ≤ (G3 ++ [AObj.var (.bool bt :: (ca ++ [.int .i64 0,.nils,.nils]))]).length := by rw [List.length_append]; omega
 have hHx : H.length ≤ G3.length := by omega
 generalize updC C3 G3.length (.var (.bool bt :: (ca ++ [.int .i64 0,.nils,.nils]))) = C4 at k4 c4 c14 r4 e4 ha4
 generalize G3.length = x4 at c4 hG3 hfr3 hp3 hHx ⊢
 generalize G3 ++ [AObj.var (.bool bt :: (ca ++ [.int .i64 0,.nils,.nils]))] = G4 at k4 hl4 ⊢
 have ret : ∀ (M : Heap) (D : Nat → Option AObj) (cb : List AV) (o2 : Opn) (st' : RS),KW H M D → (∀ q o,q ≠ p → C q = some o → D q = some o) → RqR H D p st' → D G.length = some (.var z7) → D x4 = some (.var (.bool bt :: (ca ++ cb))) → G.length ≤ M.length → OpM (SlF D G.length) ca (opQ (numQ 1 st).2).1 → OpM (SlF D G.length) cb o2 → ptQ st = (⟨bt,(opQ (numQ 1 st).2).1,o2⟩,st') → J57_0 B (Cl B) n (.ptr (some (.new G.length,0))) (.ptr (some (.new x4,0))) M Q := fun M D cb o2 st' kD hD hr' h1 h4 hM ma mb hpt => by
  have hl : (AV.bool bt :: (ca ++ cb)).length = 7 := by simp [hca,mb.three]
  refine J57_0_in ?_
  rw [peekVN (n := 7) (kD.cs _ _ h4) hl,ob_some]
  refine op_st (c := z7) (vs := .bool bt :: (ca ++ cb)) rfl hl (kD.cs _ _ h1) (by simp [z7]) ?_
  have k6 := kD.set h1 hG (.var (.bool bt :: (ca ++ cb)))
  rw [putAt_all (by rw [hl]; rfl),peekVN (n := 7) (k6.cs _ _ updC_at) hl,ob_some]
  rw [hpt] at hq
  exact tidy_none (hq _ _ _ k6 (fun q o h1 h2 => by rw [updC_ne (hfr q o h2)]; exact hD q o h1 h2) (hr'.keep fun o h => by rw [updC_ne hne]; exact h) (by rw [List.length_set]; exact hM) ⟨ca,cb,rfl,ma.mono (SlF.upd h1),mb.mono (SlF.upd h1)⟩)
 rw [pBool_bool]
 split
 ·rename_i e
  subst e
  have hb1 : (numQ 1 st).1 = 1 := of_decide_eq_true hb
  have hs3 := opQ_le (numQ 1 st).2
  refine f92_ok k4 r4 (by omega) fun cb G5 C5 k5 e5 r5 l5 hob => live_agg' (op_fldP ?_)
  have c45 := e5 _ _ (Ne.symm hp3) c4
  refine op_st (c := .bool true :: (ca ++ [.int .i64 0,.nils,.nils])) (vs := cb) rfl hob.three (k5.cs _ _ c45) (by simp [hca]) ?_
  have hput : putAt (.bool true :: (ca ++ [.int .i64 0,.nils,.nils])) (0 + 4) cb = .bool true :: (ca ++ cb) := by
   obtain ⟨_,_,rfl,_⟩ := ha
   obtain ⟨_,_,rfl,_⟩ := hob
   rfl
  rw [hput]
  have k6 := k5.set c45 hHx (.var (.bool true :: (ca ++ cb)))
  obtain ⟨zz,hzz⟩ : ∃ z,C4 p = some (.var z) := ⟨_,r4.1⟩
  refine ret _ (updC C5 x4 (.var (.bool true :: (ca ++ cb)))) cb (opQ (opQ (numQ 1 st).2).2).1 (opQ (opQ (numQ 1 st).2).2).2 k6 (fun q o h1 h2 => by rw [updC_ne (hfr3 q o h2)]; exact e5 q o h1 (e4 q o h1 h2)) (r5.keep fun o h => by rw [updC_ne hp3]; exact h) (by rw [updC_ne (by omega)]; exact e5 _ _ (Ne.symm hne) c14) updC_at (by rw [List.length_set]; omega) ((ha4.mono fun _ _ _ h => SlF.upd c45 _ _ _ (SlF.keep hzz e5 _ _ _ (SlF.low (by omega) _ _ _ h)))) (hob.mono fun _ _ _ h => SlF.upd c45 _ _ _ (SlF.low (by omega) _ _ _ h)) ?_
  unfold ptQ; rw [if_pos hb1]
 ·rename_i e
  have e : bt = false := by simpa using e
  subst e
  have hb1 : ¬ (numQ 1 st).1 = 1 := of_decide_eq_false hb
  refine ret _ C4 [.int .i64 0,.nils,.nils] ⟨0,[],[]⟩ _ k4 e4 r4 c14 c4 hl4 (ha4.mono fun _ _ _ h => SlF.low (by omega) _ _ _ h) ⟨.nils,.nils,rfl,slF_nil 1,slF_nil 32⟩ ?_
  unfold ptQ; rw [if_neg hb1]
end
end Go.Am
namespace Go.Am
open Go
section
variable {B : Base} {n : Nat} {H G : Heap} {C : Nat → Option AObj} {Q : AV → Heap → Prop} {p : Nat} {st : RS}
theorem op_toBy' {t : List UInt8} {K : AV → Heap → Prop} (hk : K (.slice (.new G.length) 0 t.length 1 none) (G ++ [.arr (t.map brw).flatten])) : aop B E0 G K (.toBytes (.const (.str t))) := by
 simp only [aop,opK,Opd.look,ob_some,pStr_str]
 rw [← brws_cells]; exact hk
theorem slF_new {t : List UInt8} {k0 : Nat} (hk : k0 ≤ G.length) : SlF (updC C G.length (.arr (t.map brw).flatten)) k0 1 (.slice (.new G.length) 0 t.length 1 none) (t.map brw) := ⟨brws_len _,.inr ⟨G.length,none,by rw [List.length_map],hk,updC_at⟩⟩
theorem f58_ok (k : KW H G C) (hr : RqR H C p st) (hs : st.1.length ≤ 1000000) (hq : RqE H G C p SnM (spQ st) fun x G' => Q (.agg x) G') : Cl B 58 [pt p] G Q := by
 have hbig : maxBytes = 140737488355328 := rfl
 refine f58_in fun n cl hn hcl hH hA => op_alloc (J58_5_in ?_)
 subst hcl
 have hp := k.lt hr.1
 have k1 := k.add (.var [.int .i64 0,.nils,.nils])
 have e1 := keeps_add (o := .var [.int .i64 0,.nils,.nils]) k
 have c1 : updC C G.length (.var [.int .i64 0,.nils,.nils]) G.length = some (.var [.int .i64 0,.nils,.nils]) := updC_at
 have hfr : ∀ q o,C q = some o → q ≠ G.length := fun q o h => by have := k.lt h; omega
 have hG := k.le
 have hGl : G.length < (G ++ [AObj.var [.int .i64 0,.nils,.nils]]).length := by simp
 generalize updC C G.length (.var [.int .i64 0,.nils,.nils]) = C1 at k1 e1 c1
 generalize G ++ [AObj.var [.int .i64 0,.nils,.nils]] = G1 at k1 hGl ⊢
 have hne : p ≠ G.length := by omega
 refine f55_ok (most := 1099511627776) k1 (hr.keep fun o => e1 p o) (by decide) fun G2 C2 k2 e2 r2 l2 => int_i ?_
 have hs2 := (numQ_le 1099511627776 st).2
 rw [show layParts [(.int .i64 0),.nils,.nils] [(0,1,.int .i64 ((numQ 1099511627776 st).1 : Int))] = some [.int .i64 ((numQ 1099511627776 st).1 : Int),.nils,.nils] from rfl,ob_some]
 refine op_alloc (op_st_last rfl rfl (J58_4_in ?_))
 have k3 := k2.add (.var [.int .i64 ((numQ 1099511627776 st).1 : Int),.nils,.nils])
 have c3 : updC C2 G2.length (.var [.int .i64 ((numQ 1099511627776 st).1 : Int),.nils,.nils]) G2.length = some (.var [.int .i64 ((numQ 1099511627776 st).1 : Int),.nils,.nils]) := updC_at
 have e3 := keeps_add (o := .var [.int .i64 ((numQ 1099511627776 st).1 : Int),.nils,.nils]) k2
 have r3 := r2.keep fun o => e3 p o
 have hx3 : C2 G2.length = none := by
  cases h : C2 G2.length with
  | none => rfl
  | some o => have := k2.lt h; omega
 have hpx : p ≠ G2.length := by have := k2.lt r2.1; omega
 have hGx : G.length ≠ G2.length := by omega
 have hHx : H.length ≤ G2.length := k2.le
 have c13 := e3 _ _ (e2 _ _ (Ne.symm hne) c1)
 have l3 : G.length ≤ (G2 ++ [AObj.var [.int .i64 ((numQ 1099511627776 st).1 : Int),.nils,.nils]]).length := by rw [List.length_append]; omega
 have hx3l : G.length ≤ G2.length := by omega
 generalize updC C2 G2.length (.var [.int .i64 ((numQ 1099511627776 st).1 : Int),.nils,.nils]) = C3 at k3 c3 e3 r3 c13
 generalize G2.length = x3 at c3 hx3 hpx hGx hHx hx3l ⊢
 generalize G2 ++ [AObj.var [.int .i64 ((numQ 1099511627776 st).1 : Int),.nils,.nils]] = G3 at k3 l3 ⊢
 refine f55_ok (most := 64) k3 r3 (by decide) fun G4 C4 k4 e4 r4 l4 => int_i ?_
 have hm := numQ_le 64 (numQ 1099511627776 st).2
 have c43 := e4 _ _ (Ne.symm hpx) c3
 have fin : ∀ (G' : Heap) (C' : Nat → Option AObj) (v : AV) (cs : List (List AV)) (acc : List (List UInt8)) (st' : RS),Lst H C2 G.length p 1 LfE G' C' st' v cs acc → C' x3 = some (.var [.int .i64 ((numQ 1099511627776 st).1 : Int),v,.nils]) → st'.1.length ≤ 1000000 → (acc,st') = listQ textQ 64 (numQ 1099511627776 st).2 → J58_3 B (Cl B) n (pt p) (.ptr (some (.new G.length,0))) (.ptr (some (.new x3,0))) G' Q := fun G' C' v cs acc st' z cx hs' he => by
  obtain ⟨D,kD,sD,rD,le⟩ := z.done lf_mono
  have lv := le_lv le
  refine J58_3_in (f93_ok kD rD fun pv G5 C5 k5 e5 r5 l5 hp5 => live_slF hp5 (op_fldP ?_))
  have cx5 := e5 _ _ (Ne.symm hpx) (sD _ _ cx)
  refine op_st (c := [.int .i64 ((numQ 1099511627776 st).1 : Int),v,.nils]) (vs := [pv]) (cells_isL (slF_isL hp5)) rfl (k5.cs _ _ cx5) (by simp) ?_
  rw [show putAt [AV.int .i64 ((numQ 1099511627776 st).1 : Int),v,.nils] (0 + 2) [pv] = [.int .i64 ((numQ 1099511627776 st).1 : Int),v,pv] from rfl]
  have k6 := k5.set cx5 hHx (.var [.int .i64 ((numQ 1099511627776 st).1 : Int),v,pv])
  rw [peekVN (n := 3) (k6.cs _ _ updC_at) rfl,ob_some]
  have eD : ∀ q o,q ≠ p → C q = some o → C5 q = some o := fun q o h1 h2 => e5 q o h1 (sD q o (z.e q o h1 (e2 q o h1 (e1 q o h2))))
  have c15 : C5 G.length = some (.var [.int .i64 0,.nils,.nils]) := e5 _ _ (Ne.symm hne) (sD _ _ (z.e _ _ (Ne.symm hne) (e2 _ _ (Ne.symm hne) c1)))
  have c16 : updC C5 x3 (.var [.int .i64 ((numQ 1099511627776 st).1 : Int),v,pv]) G.length = some (.var [.int .i64 0,.nils,.nils]) := by rw [updC_ne hGx]; exact c15
  refine op_st (c := [.int .i64 0,.nils,.nils]) (vs := [.int .i64 ((numQ 1099511627776 st).1 : Int),v,pv]) rfl rfl (k6.cs _ _ c16) (by simp) ?_
  have k7 := k6.set c16 hG (.var [.int .i64 ((numQ 1099511627776 st).1 : Int),v,pv])
  rw [putAt_all (show ([.int .i64 0,.nils,.nils] : List AV).length = [AV.int .i64 ((numQ 1099511627776 st).1 : Int),v,pv].length from rfl),peekVN (n := 3) (k7.cs _ _ updC_at) rfl,ob_some]
  have hsp : spQ st = (⟨((numQ 1099511627776 st).1 : Int),acc,(pathQ st').1⟩,(pathQ st').2) := by unfold spQ; rw [← he]
  rw [hsp] at hq
  obtain ⟨zz,hzz⟩ : ∃ z,D p = some (.var z) := ⟨_,rD.1⟩
  have hx3C : ∀ q o,C q = some o → q ≠ x3 := fun q o h => fun e => by
   subst e
   by_cases hqp : q = p
   ·exact hpx hqp.symm
   ·have := e2 q o hqp (e1 q o h); rw [hx3] at this; cases this
  refine tidy_none (hq _ _ _ k7 (fun q o h1 h2 => by rw [updC_ne (hfr q o h2),updC_ne (hx3C q o h2)]; exact eD q o h1 h2) (r5.keep fun o h => by rw [updC_ne hne,updC_ne hpx]; exact h) (by rw [List.length_set,List.length_set]; have := z.hk; omega) ⟨v,pv,rfl,?_,?_⟩)
  ·have a1 : LV BsM (SlF C5 G.length) v acc := lv.mono (fun _ _ _ h => SlF.keep hzz e5 _ _ _ h) fun _ _ h => SlF.keep hzz e5 _ _ _ h
   have a2 : LV BsM (SlF (updC C5 x3 (.var [.int .i64 ((numQ 1099511627776 st).1 : Int),v,pv])) G.length) v acc := a1.mono (SlF.upd cx5) fun _ _ h => SlF.upd cx5 _ _ _ h
   exact a2.mono (SlF.upd c16) fun _ _ h => SlF.upd c16 _ _ _ h
  ·exact SlF.upd c16 _ _ _ (SlF.upd cx5 _ _ _ (SlF.low z.hk _ _ _ hp5))
 have go : ∀ (f i : Nat) (G' : Heap) (C' : Nat → Option AObj) (v : AV) (cs : List (List AV)) (acc : List (List UInt8)) (st' : RS),i + f = (numQ 64 (numQ 1099511627776 st).2).1 → cs.length = i → Lst H C2 G.length p 1 LfE G' C' st' v cs acc → C' x3 = some (.var [.int .i64 ((numQ 1099511627776 st).1 : Int),v,.nils]) → st'.1.length ≤ 1000000 → goQ textQ f acc st' = listQ textQ 64 (numQ 1099511627776 st).2 →
   L58_2 B (Cl B) n (pt p) (.ptr (some (.new G.length,0))) (.ptr (some (.new x3,0))) ((numQ 64 (numQ 1099511627776 st).2).1 : Int) (i : Int) G' Q := by
  intro f
  induction f with
  | zero =>
   intro i G' C' v cs acc st' hif hl z cx hs' hgo
   exact L58_2_in (ACall.cle B table) (bs_no (decide_eq_false (by omega)) (fin G' C' v cs acc st' z cx hs' hgo))
  | succ f ih =>
   intro i G' C' v cs acc st' hif hl z cx hs' hgo
   refine L58_2_in (ACall.cle B table) (bs_yes (decide_eq_true (by omega)) (op_nil (op_fldP ?_)))
   rw [peekV (z.k.cs p _ z.r.1) (v := .bool st'.2) rfl,ob_some,pBool_bool]
   refine bs_iff.2 ⟨fun hw => fin G' C' v cs acc st' z cx hs' (by simpa only [goQ,hw,if_true] using hgo),fun hw => ?_⟩
   simp only [goQ,hw] at hgo
   obtain ⟨D1,kD,sD,rD,back⟩ := z.call lf_mono
   refine J58_1_in (f54_ok kD rD hs' fun G5 D2 k5 e5 r5 l5 => str_u (op_fldP ?_))
   obtain ⟨C6,z6,keep6,_⟩ := back G5 D2 _ k5 e5 r5 l5
   have cx6 := keep6 _ _ (Ne.symm hpx) cx
   rw [peekV (z6.k.cs _ _ cx6) (v := v) rfl,ob_some]
   refine z6.a.live (op_toBy' ?_)
   have z7 := z6.add lf_mono (.arr ((textQ st').1.map brw).flatten)
   have cx7 := keeps_add (o := .arr ((textQ st').1.map brw).flatten) z6.k _ _ cx6
   have b7 := slF_new (C := C6) (t := (textQ st').1) (k0 := G.length) (G := G5) z6.hk
   generalize updC C6 G5.length (.arr ((textQ st').1.map brw).flatten) = C7 at z7 cx7 b7
   generalize AV.slice (.new G5.length) 0 (textQ st').1.length 1 none = lv at b7 ⊢
   generalize G5 ++ [AObj.arr ((textQ st').1.map brw).flatten] = G7 at z7 ⊢
   rw [show layParts [.nils] [(0,1,lv)] = some [lv] from lay_one (cells_isL (slF_isL b7)) rfl,ob_some]
   refine slK_in ?_
   refine z7.app (x := (textQ st').1) (row := [lv]) rfl ⟨lv,rfl,b7⟩ (by rw [hl]; omega) fun v' G8 z8 => op_fldP ?_
   refine op_st (c := [.int .i64 ((numQ 1099511627776 st).1 : Int),v,.nils]) (vs := [v']) z8.a.cells rfl (z8.k.cs _ _ cx7) (by simp) ?_
   rw [show putAt [AV.int .i64 ((numQ 1099511627776 st).1 : Int),v,.nils] (0 + 1) [v'] = [.int .i64 ((numQ 1099511627776 st).1 : Int),v',.nils] from rfl]
   have z9 := z8.setv lf_mono (c' := [.int .i64 ((numQ 1099511627776 st).1 : Int),v',.nils]) cx7 hx3 hHx (Ne.symm hpx)
   refine J58_0_in ?_
   rw [w64 (by omega)]
   exact ih (i + 1) _ _ v' _ _ _ (by omega) (by rw [List.length_append,hl]; rfl) z9 updC_at (Nat.le_trans (textQ_le st').2 hs') hgo
 refine go (numQ 64 (numQ 1099511627776 st).2).1 0 G4 C4 .nils [] [] _ (Nat.zero_add _) rfl (Lst.zero k4 (fun q o h1 h2 => e4 q o h1 (e3 q o h2)) r4 (by omega)) c43 (Nat.le_trans hm.2 (Nat.le_trans hs2 hs)) rfl
end
end Go.Am
namespace Go.Am
open Go
def goE : Nat → List Ent → RS → List Ent × RS
 | 0,acc,st => (acc,st)
 | k + 1,acc,st => if st.2 = true then (acc,st) else if (parseF st.1).2.2 = 0 then goE k (acc ++ [(parseF st.1).1]) (st.1.drop (parseF st.1).2.1,false) else ([],(st.1,true))
def entsQ (most : Nat) (st : RS) : List Ent × RS := goE (numQ most st).1 [] (numQ most st).2
theorem goE_le : ∀ k acc st,(goE k acc st).2.1.length ≤ st.1.length ∧ (goE k acc st).1.length ≤ acc.length + k
 | 0,acc,st => by simp [goE]
 | k + 1,acc,st => by
  simp only [goE]
  split
  ·simp
  ·split
   ·have := goE_le k (acc ++ [(parseF st.1).1]) (st.1.drop (parseF st.1).2.1,false)
    rw [List.length_append,List.length_singleton] at this
    simp only [List.length_drop] at this
    omega
   ·simp
theorem entsQ_le (most : Nat) (st : RS) : (entsQ most st).2.1.length ≤ st.1.length ∧ (entsQ most st).1.length ≤ most := by
 have h1 := goE_le (numQ most st).1 [] (numQ most st).2
 have h2 := numQ_le most st
 unfold entsQ
 simp only [List.length_nil] at h1
 omega
theorem seq_big {key value : List UInt8} {del : Bool} : entR ⟨key,value,del,1099511627777⟩ = false := by
 simp [entR]
theorem min_big {g : Int} (h : g > 1099511627776) : IntKind.i64.wrap (minInts g [1099511627777]) = 1099511627777 := by
 have : minInts g [1099511627777] = 1099511627777 := by simp only [minInts,List.foldl]; omega
 rw [this]; decide
theorem min_small {g : Int} (h0 : 0 ≤ g) (h : ¬ g > 1099511627776) : IntKind.i64.wrap (minInts g [1099511627777]) = g := by
 have : minInts g [1099511627777] = g := by simp only [minInts,List.foldl]; omega
 rw [this,w64 (by omega)]
abbrev EntE : MM → List AV → Ent → Prop := fun _ x e => x = e.row
theorem ent_mono : EMono EntE := fun _ _ _ _ _ h => h
section
variable {B : Base} {n : Nat} {H G : Heap} {C C0 : Nat → Option AObj} {Q : AV → Heap → Prop} {s : List UInt8} {p k0 es : Nat} {st : RS}
theorem parse_parts {c0 : UInt8} {r : List UInt8} (h : ¬ c0.toNat > 1) : parseF (c0 :: r) = parseE (parseB (c0 :: r) (decide ((c0.toNat : Int) = 1)) (getF r) (textF ((c0 :: r).drop (1 + (getF r).2.1)))) := by
 show (if c0.toNat > 1 then (zent,0,2) else parseE (parseA (c0 :: r) c0)) = _
 rw [if_neg h]; rfl
theorem f83_ok (hs : s.length ≤ 1000000) (hq : PaQ H s Q) : Cl B 83 [.str s] H Q := by
 refine f83_in fun n cl hn hcl hH hA => op_alloc (J83_13_in (str_u ?_))
 subst hcl
 have k1 := (KW.zero (G := H)).add (.var zrow)
 have c1 : updC (fun _ => none) H.length (.var zrow) H.length = some (.var zrow) := updC_at
 have eg : H ++ [AObj.var [.str [],.str [],.bool false,.int .i64 0]] = H ++ [AObj.var zrow] := rfl
 rw [eg]
 generalize updC (fun _ => none) H.length (.var zrow) = C1 at k1 c1
 generalize H ++ [AObj.var zrow] = G1 at k1 ⊢
 cases s with
 | nil => exact bs_yes rfl (pa_bad k1 c1 rfl (Nat.le_refl _) rfl hq)
 | cons c0 r =>
  refine bs_no rfl (op_idxS (i := 0) (c := c0) rfl ?_)
  rw [pInt_int]
  have hc0 : c0.toNat < 256 := c0.toNat_lt
  by_cases h1 : c0.toNat > 1
  ·exact bs_yes (decide_eq_true (by omega)) (pa_bad k1 c1 rfl (Nat.le_refl _) (by show (if c0.toNat > 1 then (zent,0,2) else _) = _; rw [if_pos h1]) hq)
  have hpp := parse_parts (r := r) h1
  obtain ⟨g1,g2,g3,g4⟩ := getF_ok r
  rw [List.length_cons] at hs
  refine bs_no (decide_eq_false (by omega)) (J83_12_in (op_dropS (i := 1) (by simp) ?_))
  rw [List.drop_succ_cons,List.drop_zero]
  refine f85_ok (live_tuple (op_extU rfl (op_extI rfl (op_extB (b := (getF r).2.2) rfl (J83_11_in ?_)))))
  rw [pBool_bool]
  refine bs_iff.2 ⟨fun gok => int_u ?_,fun gno => pa_bad k1 c1 rfl (Nat.le_refl _) ?_ hq⟩
  rotate_left
  ·have gno : (getF r).2.2 = false := gno
   rw [hpp]
   unfold parseE
   rw [if_pos (.inl (by unfold parseB; split <;> simp [gno]))]
  have gok : (getF r).2.2 = true := gok
  show bs (decide ((getF r).1 > 1099511627776)) _ _
  by_cases hbig : (getF r).1 > 1099511627776
  ·refine bs_yes (decide_eq_true hbig) (pa_bad k1 c1 rfl (Nat.le_refl _) ?_ hq)
   rw [hpp]
   unfold parseE
   rw [if_pos (.inr (by unfold parseB; split <;> simp only [min_big hbig] <;> exact seq_big))]
  have hmin := min_small g1 hbig
  refine bs_no (decide_eq_false hbig) (J83_10_in (int_i ?_))
  rw [w64 (n := 1 + ((getF r).2.1 : Int)) (by omega),show (1 + ((getF r).2.1 : Int)) = ((1 + (getF r).2.1 : Nat) : Int) from by omega]
  refine J83_9_in ?_
  have hd : 1 + (getF r).2.1 ≤ (c0 :: r).length := by rw [List.length_cons]; omega
  refine op_dropS hd ?_
  have ht := textF_ok ((c0 :: r).drop (1 + (getF r).2.1))
  have htl : ((c0 :: r).drop (1 + (getF r).2.1)).length = (c0 :: r).length - (1 + (getF r).2.1) := List.length_drop ..
  rw [List.length_cons] at htl
  refine f84_ok (by omega) (live_tuple (op_extS rfl (op_extI rfl (op_extB (b := (textF ((c0 :: r).drop (1 + (getF r).2.1))).2.2) rfl (J83_8_in ?_)))))
  rw [pBool_bool]
  refine bs_iff.2 ⟨fun tok => J83_7_in (int_i ?_),fun tno => pa_bad k1 c1 rfl (Nat.le_refl _) ?_ hq⟩
  rotate_left
  ·rw [hpp]
   unfold parseE
   rw [if_pos (.inl (by unfold parseB; split <;> simp [tno]))]
  generalize ht2 : textF ((c0 :: r).drop (1 + (getF r).2.1)) = t at hpp ht tok ⊢
  rw [w64 (by omega),show ((1 + (getF r).2.1 : Nat) : Int) + (t.2.1 : Int) = ((1 + (getF r).2.1 + t.2.1 : Nat) : Int) from by omega]
  refine J83_6_in (op_idxS (i := 0) (c := c0) rfl ?_)
  rw [pInt_int]
  refine ib_eq ?_
  refine int_u ?_
  rw [w64 (n := (getF r).1) (by omega)]
  rw [show layParts [(.str []),(.str []),(.bool false),(.int .i64 0)] [(0,1,.str t.1),(2,1,.bool (decide ((c0.toNat : Int) = 1))),(3,1,.int .i64 (getF r).1)] = some (Ent.row ⟨t.1,[],decide ((c0.toNat : Int) = 1),(getF r).1⟩) from rfl,ob_some]
  generalize hdl : decide ((c0.toNat : Int) = 1) = dl at hpp ⊢
  refine op_alloc (op_st_last rfl rfl ?_)
  have k2 := k1.add (.var (Ent.row ⟨t.1,[],dl,(getF r).1⟩))
  have c2 := keeps_add (o := .var (Ent.row ⟨t.1,[],dl,(getF r).1⟩)) k1 _ _ c1
  have d2 : updC C1 G1.length (.var (Ent.row ⟨t.1,[],dl,(getF r).1⟩)) G1.length = some (.var (Ent.row ⟨t.1,[],dl,(getF r).1⟩)) := updC_at
  have hx : H.length < G1.length := k1.lt c1
  generalize updC C1 G1.length (.var (Ent.row ⟨t.1,[],dl,(getF r).1⟩)) = C2 at k2 c2 d2
  generalize G1.length = x12 at d2 hx ⊢
  generalize G1 ++ [AObj.var (Ent.row ⟨t.1,[],dl,(getF r).1⟩)] = G2 at k2 ⊢
  have last : ∀ (M : Heap) (D : Nat → Option AObj) (e : Ent) (m : Nat),KW H M D → D H.length = some (.var zrow) → D x12 = some (.var e.row) → parseF (c0 :: r) = parseE (e,m,false) → J83_4 B (Cl B) n (.ptr (some (.new H.length,0))) (m : Int) (.ptr (some (.new x12,0))) M Q := fun M D e m kD hD2 hDx he => by
   refine J83_4_in ?_
   rw [peekVN (n := 4) (kD.cs _ _ hDx) rfl,ob_some]
   refine f63_ok (tyK_bool (J83_3_in ?_))
   rw [pBool_bool]
   refine bs_iff.2 ⟨fun hR => ?_,fun hR => pa_bad kD hD2 rfl (Nat.le_refl _) (by rw [he]; unfold parseE; rw [if_pos (.inr hR)]) hq⟩
   rw [peekVN (n := 4) (kD.cs _ _ hDx) rfl,ob_some]
   refine op_st (c := zrow) (vs := e.row) rfl rfl (kD.cs _ _ hD2) (by simp [zrow]) ?_
   have k3 := kD.set hD2 (Nat.le_refl _) (.var e.row)
   rw [putAt_all (show zrow.length = e.row.length from rfl),peekVN (n := 4) (k3.cs _ _ updC_at) rfl,ob_some]
   obtain ⟨L,hL⟩ := k3.pre
   rw [hL]
   have hpe : parseF (c0 :: r) = (e,m,0) := by rw [he]; unfold parseE; rw [if_neg (by simp [hR])]
   have := hq L
   rw [hpe] at this
   exact tidy_none this
  refine J83_5_in (op_fldP ?_)
  rw [peekV (k2.cs _ _ d2) (v := .bool dl) rfl,ob_some]
  refine tyK_bool (op_notB (J83_2_in ?_))
  rw [pBool_bool]
  cases dl with
  | true =>
   rw [if_neg (by decide)]
   refine last _ _ _ _ k2 c2 d2 ?_
   rw [hpp]
   unfold parseB
   rw [if_pos rfl]
   simp only [hmin,gok,tok]
   rfl
  | false =>
   rw [if_pos (by decide)]
   have hd2 : 1 + (getF r).2.1 + t.2.1 ≤ (c0 :: r).length := by rw [List.length_cons]; omega
   refine op_dropS hd2 ?_
   have hu := textF_ok ((c0 :: r).drop (1 + (getF r).2.1 + t.2.1))
   have hul : ((c0 :: r).drop (1 + (getF r).2.1 + t.2.1)).length = (c0 :: r).length - (1 + (getF r).2.1 + t.2.1) := List.length_drop ..
   rw [List.length_cons] at hul
   refine f84_ok (by omega) (live_tuple (op_extS rfl (op_extI rfl (op_extB (b := (textF ((c0 :: r).drop (1 + (getF r).2.1 + t.2.1))).2.2) rfl (J83_1_in ?_)))))
   rw [pBool_bool]
   have hpb : parseB (c0 :: r) false (getF r) t = (⟨t.1,(textF ((c0 :: r).drop (1 + (getF r).2.1 + t.2.1))).1,false,(getF r).1⟩,1 + (getF r).2.1 + t.2.1 + (textF ((c0 :: r).drop (1 + (getF r).2.1 + t.2.1))).2.1,!(textF ((c0 :: r).drop (1 + (getF r).2.1 + t.2.1))).2.2) := by
    unfold parseB
    rw [if_neg (by decide)]
    simp only [hmin,gok,tok]
    simp
   rw [hpb] at hpp
   generalize textF ((c0 :: r).drop (1 + (getF r).2.1 + t.2.1)) = u at hpp hu ⊢
   refine bs_iff.2 ⟨fun uok => J83_0_in (op_fldP ?_),fun uno => pa_bad k2 c2 rfl (Nat.le_refl _) (by rw [hpp]; unfold parseE; rw [if_pos (.inl (by rw [uno]; rfl))]) hq⟩
   refine op_st (c := Ent.row ⟨t.1,[],false,(getF r).1⟩) (vs := [.str u.1]) rfl rfl (k2.cs _ _ d2) (by simp [Ent.row]) (int_i ?_)
   rw [show putAt (Ent.row ⟨t.1,[],false,(getF r).1⟩) (0 + 1) [.str u.1] = Ent.row ⟨t.1,u.1,false,(getF r).1⟩ from rfl]
   have k3 := k2.set d2 (Nat.le_of_lt hx) (.var (Ent.row ⟨t.1,u.1,false,(getF r).1⟩))
   rw [w64 (by omega),show ((1 + (getF r).2.1 + t.2.1 : Nat) : Int) + (u.2.1 : Int) = ((1 + (getF r).2.1 + t.2.1 + u.2.1 : Nat) : Int) from by omega]
   refine last _ _ ⟨t.1,u.1,false,(getF r).1⟩ _ k3 (by rw [updC_ne (by omega)]; exact c2) updC_at ?_
   rw [hpp,uok]; rfl
theorem Lst.setp {α : Type} {E : MM → List AV → α → Prop} {v : AV} {cs : List (List AV)} {acc : List α} (hE : EMono E) (z : Lst H C0 k0 p es E G C st v cs acc) (st' : RS) : Lst H C0 k0 p es E (G.set p (.var [.str st'.1,.bool st'.2])) (updC C p (.var [.str st'.1,.bool st'.2])) st' v cs acc :=
 ⟨z.k.set z.r.1 z.r.2 _,z.e.upd,⟨updC_at,z.r.2⟩,z.a.set z.r.1,z.f.mono fun y a hy => hE _ _ y a (SlF.upd z.r.1) hy,by have := z.hk; rw [List.length_set]; exact this⟩
theorem le_entsQ {M : MM} {v : AV} {l : List Ent} (h : LE 4 EntE M v l) : EsM M v l := by
 obtain ⟨cs,h1,h2⟩ := h
 have : cs = l.map Ent.row := by
  refine List.ext_getElem? fun i => ?_
  rw [List.getElem?_map]
  rcases Nat.lt_or_ge i cs.length with hi | hi
  ·have hi2 : i < l.length := by rw [← h2.1]; exact hi
   rw [List.getElem?_eq_getElem hi,List.getElem?_eq_getElem hi2,h2.2 i _ _ (List.getElem?_eq_getElem hi) (List.getElem?_eq_getElem hi2)]
   rfl
  ·rw [List.getElem?_eq_none hi,List.getElem?_eq_none (by rw [← h2.1]; exact hi)]; rfl
 rw [this] at h1; exact h1
theorem f53_ok {most : Nat} (hm : most ≤ 1000) (k : KW H G C) (hr : RqR H C p st) (hs : st.1.length ≤ 1000000) (hq : RqE H G C p EsM (entsQ most st) Q) : Cl B 53 [pt p,.int .i64 (most : Int)] G Q := by
 have hbig : maxBytes = 140737488355328 := rfl
 refine f53_in fun n cl hn hcl hH hA => ?_
 subst hcl
 have hm2 := numQ_le most st
 refine f55_ok (most := most) k hr (by omega) fun G1 C1 k1 e1 r1 l1 => int_i ?_
 have go : ∀ (f i : Nat) (G' : Heap) (C' : Nat → Option AObj) (v : AV) (cs : List (List AV)) (acc : List Ent) (st' : RS),i + f = (numQ most st).1 → cs.length = i → Lst H C G.length p 4 EntE G' C' st' v cs acc → st'.1.length ≤ 1000000 → goE f acc st' = entsQ most st → L53_5 B (Cl B) n (pt p) ((numQ most st).1 : Int) v (i : Int) G' Q := by
  intro f
  have fin : ∀ (G' : Heap) (C' : Nat → Option AObj) (v : AV) (cs : List (List AV)) (acc : List Ent) (st' : RS),Lst H C G.length p 4 EntE G' C' st' v cs acc → (acc,st') = entsQ most st → J53_6 B (Cl B) n v G' Q := fun G' C' v cs acc st' z he => by
   obtain ⟨C2,k2,s2,r2,le⟩ := z.done ent_mono
   rw [← he] at hq
   exact J53_6_in (tidy_none (hq v G' C2 k2 (fun q o hq hc => s2 q o (z.e q o hq hc)) r2 z.hk (le_entsQ le)))
  induction f with
  | zero =>
   intro i G' C' v cs acc st' hif hl z hs' hgo
   exact L53_5_in (ACall.cle B table) (bs_no (decide_eq_false (by omega)) (fin G' C' v cs acc st' z hgo))
  | succ f ih =>
   intro i G' C' v cs acc st' hif hl z hs' hgo
   refine L53_5_in (ACall.cle B table) (bs_yes (decide_eq_true (by omega)) (op_nil (op_fldP ?_)))
   rw [peekV (z.k.cs p _ z.r.1) (v := .bool st'.2) rfl,ob_some,pBool_bool]
   refine bs_iff.2 ⟨fun hw => fin G' C' v cs acc st' z (by simpa only [goE,hw,if_true] using hgo),fun hw => J53_4_in (op_nil (op_fldP ?_))⟩
   simp only [goE,hw] at hgo
   rw [peekV (z.k.cs p _ z.r.1) (v := .str st'.1) rfl,ob_some]
   refine str_u (f83_ok hs' fun L => live_tuple (op_extA rfl (op_extI rfl (op_extI rfl (op_alloc (op_st_last rfl rfl (J53_2_in (int_i ?_))))))))
   have z2 := z.grow L
   have z3 := z2.add ent_mono (.var (parseF st'.1).1.row)
   have hpl := parseF_le st'.1
   by_cases h0 : (parseF st'.1).2.2 = 0
   ·rw [if_neg (by decide),if_pos h0] at hgo
    refine bs_no (by simp [h0]) (J53_1_in ?_)
    rw [peekVN (n := 4) (by rw [get_app0]; rfl) rfl,ob_some,lay_row (n := 4) rfl rfl,ob_some]
    refine slK_in ?_
    refine z3.app (x := (parseF st'.1).1) (row := (parseF st'.1).1.row) rfl rfl (by rw [hl]; omega) fun v' G4 z5 => J53_0_in (op_nil (op_fldP ?_))
    have hg := z5.k.cs p _ z5.r.1
    rw [peekV hg (v := .str st'.1) rfl,ob_some]
    refine str_u (op_dropS hpl (op_nil (op_fldP (op_st (c := [.str st'.1,.bool st'.2]) (vs := [.str (st'.1.drop (parseF st'.1).2.1)]) rfl rfl hg (by simp) (J53_3_in ?_)))))
    rw [w64 (by omega)]
    have z6 := z5.setp ent_mono (st'.1.drop (parseF st'.1).2.1,st'.2)
    rw [hw] at z6
    rw [show putAt [AV.str st'.1,.bool st'.2] (0 + 0) [.str (st'.1.drop (parseF st'.1).2.1)] = [.str (st'.1.drop (parseF st'.1).2.1),.bool false] from by rw [hw]; rfl]
    exact ih (i + 1) _ _ v' _ _ _ (by omega) (by rw [List.length_append,hl]; rfl) z6 (by simp only [List.length_drop]; omega) hgo
   ·rw [if_neg (by decide),if_neg h0] at hgo
    have hg := z3.k.cs p _ z3.r.1
    refine bs_yes (by simp [h0]) (op_nil (op_fldP (op_st (c := [.str st'.1,.bool st'.2]) (vs := [.bool true]) rfl rfl hg (by simp) ?_)))
    have z4 := z3.setp ent_mono (st'.1,true)
    rw [← hgo] at hq
    exact tidy_none (hq .nils _ _ z4.k z4.e z4.r z4.hk (slF_nil 4))
 exact go (numQ most st).1 0 G1 C1 .nils [] [] _ (Nat.zero_add _) rfl (Lst.zero k1 e1 r1 l1) (Nat.le_trans hm2.2 hs) rfl
end
end Go.Am
namespace Go.Am
open Go
def onlyQ (r : Rq) : Rq := if r.kind = 1 then ⟨r.kind,r.ents,[],[],[],0⟩ else if r.kind = 2 then ⟨r.kind,[],r.key,[],[],0⟩ else if r.kind = 3 then ⟨r.kind,[],[],r.lo,r.hi,0⟩ else if r.kind = 4 ∨ r.kind = 5 then ⟨r.kind,[],[],[],[],r.epoch⟩ else ⟨r.kind,[],[],[],[],0⟩
def okR (r : Rq) : Bool := if r.kind = 1 then !entsW r.ents && (decide ((r.ents.length : Int) ≥ 1) && decide ((r.ents.length : Int) ≤ 32)) else if r.kind = 2 then decide ((r.key.length : Int) ≤ 128) else if r.kind = 3 then decide ((r.lo.length : Int) ≤ 128) && decide ((r.hi.length : Int) ≤ 128) else if r.kind = 4 ∨ r.kind = 5 then numOk r.epoch else decide (r.kind = 6)
def refOK (r : Rq) : Bool := okR r && sameRq (onlyQ r) r
theorem max3 (a b c : Int) : maxInts a [b,c] ≤ 128 ↔ a ≤ 128 ∧ b ≤ 128 ∧ c ≤ 128 := by
 simp only [maxInts]
 split <;> split <;> omega
theorem ref_ok (r : Rq) : refOK r = !akW r := by
 have hp : ∀ l : List Ent,(([] : List Ent) = l) = (l = []) := fun l => propext eq_comm
 have hs : ∀ l : List UInt8,(([] : List UInt8) = l) = (l = []) := fun l => propext eq_comm
 have hi : ∀ x : Int,((0 : Int) = x) = (x = 0) := fun l => propext eq_comm
 rw [Bool.eq_iff_iff]
 obtain ⟨kind,ents,key,lo,hi',epoch⟩ := r
 have ek : kind = 1 ∨ kind = 2 ∨ kind = 3 ∨ kind = 4 ∨ kind = 5 ∨ kind = 6 ∨ ((kind < 1 ∨ 6 < kind) ∧ kind ≠ 1 ∧ kind ≠ 2 ∧ kind ≠ 3 ∧ kind ≠ 4 ∧ kind ≠ 5 ∧ kind ≠ 6) := by omega
 rcases ek with rfl | rfl | rfl | rfl | rfl | rfl | ⟨h0,h1,h2,h3,h4,h5,h6⟩
 ·simp [refOK,okR,sameRq,onlyQ,akW,v0,v1,v2,v3,v4,v5,v6,max3,hs,hi]
  constructor
  ·intro ⟨⟨a,b,c⟩,h1,h2,h3,h4⟩
   subst h1; subst h2; subst h3; subst h4
   exact ⟨⟨⟨⟨rfl,rfl,rfl⟩,rfl⟩,by simp,by simp,by simp⟩,⟨by omega,c⟩,a⟩
  ·intro ⟨⟨⟨⟨h1,h2,h3⟩,h4⟩,_⟩,⟨a,b⟩,c⟩
   exact ⟨⟨c,by omega,b⟩,h1,h2,h3,h4⟩
 ·simp [refOK,okR,sameRq,onlyQ,akW,v0,v1,v2,v3,v4,v5,v6,max3,hs,hi]
  constructor
  ·intro ⟨a,h1,h2,h3,h4⟩
   subst h2; subst h3
   exact ⟨⟨⟨h1,rfl,rfl⟩,h4⟩,a,by simp,by simp⟩
  ·intro ⟨⟨⟨h1,h2,h3⟩,h4⟩,a,_⟩
   exact ⟨a,h1,h2,h3,h4⟩
 ·simp [refOK,okR,sameRq,onlyQ,akW,v0,v1,v2,v3,v4,v5,v6,max3,hs,hi]
  constructor
  ·intro ⟨⟨a,b⟩,h1,h2,h4⟩
   subst h2
   exact ⟨⟨⟨h1,rfl⟩,h4⟩,by simp,a,b⟩
  ·intro ⟨⟨⟨h1,h2⟩,h4⟩,_,a,b⟩
   exact ⟨⟨a,b⟩,h1,h2,h4⟩
 ·simp [refOK,okR,sameRq,onlyQ,akW,v0,v1,v2,v3,v4,v5,v6,max3,hs,hi]
  constructor
  ·intro ⟨a,h1,h2,h3,h4⟩
   subst h2; subst h3; subst h4
   exact ⟨⟨⟨⟨h1,rfl⟩,rfl,rfl⟩,by simp,by simp,by simp⟩,a⟩
  ·intro ⟨⟨⟨⟨h1,h2⟩,h3,h4⟩,_⟩,a⟩
   exact ⟨a,h1,h2,h3,h4⟩
 ·simp [refOK,okR,sameRq,onlyQ,akW,v0,v1,v2,v3,v4,v5,v6,max3,hs,hi]
  constructor
  ·intro ⟨a,h1,h2,h3,h4⟩
   subst h2; subst h3; subst h4
   exact ⟨⟨⟨⟨h1,rfl⟩,rfl,rfl⟩,by simp,by simp,by simp⟩,a⟩
  ·intro ⟨⟨⟨⟨h1,h2⟩,h3,h4⟩,_⟩,a⟩
   exact ⟨a,h1,h2,h3,h4⟩
 ·simp [refOK,okR,sameRq,onlyQ,akW,v0,v1,v2,v3,v4,v5,v6,max3,hs,hi]
  constructor
  ·intro ⟨h1,h2,h3,h4,h5⟩
   subst h2; subst h3; subst h4
   exact ⟨⟨⟨⟨h1,rfl⟩,rfl,rfl⟩,h5⟩,by simp,by simp,by simp⟩
  ·intro ⟨⟨⟨⟨h1,h2⟩,h3,h4⟩,h5⟩,_⟩
   exact ⟨h1,h2,h3,h4,h5⟩
 ·simp [refOK,okR,sameRq,onlyQ,akW,v0,v1,v2,v3,v4,v5,v6,max3,hs,hi,h1,h2,h3,h4,h5,h6]
  intro a b
  omega
theorem and7 (x : Int) : ∃ k : Nat,k ≤ 7 ∧ bitsOp .and IntKind.i64 x 7 = k := by
 refine ⟨(BitVec.ofInt 64 x &&& BitVec.ofInt 64 7).toNat,?_,?_⟩
 ·rw [BitVec.toNat_and]
  exact Nat.and_le_right
 ·show IntKind.i64.wrap ((BitVec.ofInt 64 x &&& BitVec.ofInt 64 7).toNat : Int) = _
  have : (BitVec.ofInt 64 x &&& BitVec.ofInt 64 7).toNat ≤ 7 := by
   rw [BitVec.toNat_and]
   exact Nat.and_le_right
  exact w64 (by omega)
def fb7 (k : Int) : UInt8 := UInt8.ofNat (bitsOp .and IntKind.i64 k 7).toNat
theorem fb7_cell (k : Int) : IntKind.u8.wrap (bitsOp .and IntKind.i64 k 7) = (((fb7 k).toNat : Nat) : Int) := by
 obtain ⟨m,hm,e⟩ := and7 k
 unfold fb7
 rw [e,IntWalk.u8_in _ (by omega),UInt8.toNat_ofNat_of_lt' (by show _ < 256; omega)]; omega
theorem fb_same : ∀ k : Fin 7,fb7 ((k.val : Nat) : Int) = fb ((k.val : Nat) : Int) := by decide +kernel
theorem fb_eq {k : Int} (h : 1 ≤ k ∧ k ≤ 6) : fb7 k = fb k := by
 have := fb_same ⟨k.toNat,by omega⟩
 simp only at this
 rwa [show ((k.toNat : Nat) : Int) = k from by omega] at this
section
variable {B : Base} {n : Nat} {H G : Heap} {Q : AV → Heap → Prop} {r : Rq} {ev : AV}
structure Sr (B : Base) (H G : Heap) (r : Rq) (ev : AV) (o : List AV) : Prop where
 pre : ∃ L,G = H ++ L
 req : G[H.length]? = some (.var (r.row ev))
 only : G[H.length + 1]? = some (.var o)
abbrev oq1 (H : Heap) : AV := .ptr (some (.new (H.length + 1),0))
theorem Sr.fld {o : List AV} {v : AV} {off : Nat} {K : AV → Heap → Prop} (h : Sr B H G r ev o) (hv : (r.row ev)[off]? = some v) (hk : peek B G (.ptr (some (.new H.length,off))) = some v → K (.ptr (some (.new H.length,off))) G) : aop B E0 G K (.fieldPtr off (.const (wp H.length))) := by
 refine op_fldP ?_
 rw [Nat.zero_add]
 exact hk (peekV h.req hv)
theorem Sr.put {o o2 : List AV} {v : AV} {off : Nat} {K : Heap → Prop} (h : Sr B H G r ev o) (hv : v.cells? = some [v]) (hl : off + 1 ≤ o.length) (ho : putAt o off [v] = o2) (hk : ∀ G',Sr B H G' r ev o2 → K G') :
  aop B E0 G (fun p _ => aop B E0 G (fun _ G' => K G') (.st 1 (.const p) (.const v))) (.fieldPtr off (.const (oq1 H))) := by
 subst ho
 refine op_fldP (op_st hv rfl h.only (by rw [Nat.zero_add]; exact hl) (hk _ ⟨?_,?_,?_⟩))
 ·obtain ⟨L,rfl⟩ := h.pre
  exact ⟨L.set 1 _,set_app 1 _⟩
 ·rw [get_set_ne (by omega)]; exact h.req
 ·rw [Nat.zero_add]; exact get_set (lt_of_get h.only)
theorem r14_end {o : Rq} {ov : AV} {s : List UInt8} {ok : Bool} (h : Sr B H G r ev (o.row ov)) (he : Sl B H 4 ev (r.ents.map Ent.row)) (ho : Sl B H 4 ov (o.ents.map Ent.row)) (hsz : o.ents.length ≤ 1000000)
  (h1 : (ok && sameRq o r) = true → tidyK n Q (.tuple [.str s,.int .i64 0]) G) (h2 : (ok && sameRq o r) = false → tidyK n Q (.tuple [.str [],.int .i64 1]) G) : J14_15 B (Cl B) n (wp H.length) (oq1 H) (.str s) (.bool ok) G Q := by
 refine J14_15_in ?_
 rw [peekVN h.only (n := 6) rfl,ob_some,peekVN h.req (n := 6) rfl,ob_some]
 obtain ⟨L,rfl⟩ := h.pre
 refine f15_ok ho.pre he.pre hsz (tyK_bool (J14_14_in ?_))
 rw [pBool_bool]
 refine bs_iff.2 ⟨fun e1 => ?_,fun e1 => h2 (by rw [e1]; rfl)⟩
 rw [pBool_bool]
 exact bs_iff.2 ⟨fun e2 => J14_13_in (h1 (by rw [e1,e2]; rfl)),fun e2 => h2 (by rw [e1,e2]; rfl)⟩
end
section
variable {B : Base} {n : Nat} {H G : Heap} {Q : AV → Heap → Prop} {r : Rq} {ev : AV}
theorem kind_in (h : akW r = false) : 1 ≤ r.kind ∧ r.kind ≤ 6 := by
 simp only [akW,Bool.or_eq_false_iff] at h
 have := h.1.1.1.1.1.1
 simp only [v0] at this
 simp at this
 omega
theorem r14_ok (he : Sl B H 4 ev (r.ents.map Ent.row)) (hx : r.epoch ≤ 9223372036854775807) (hkl : r.ents.length ≤ 50 ∧ r.key.length ≤ 1000000 ∧ r.lo.length ≤ 1000000 ∧ r.hi.length ≤ 1000000)
  (h1 : akW r = false → Q (.tuple [.str (akF r),.int .i64 0]) H) (h2 : akW r = true → Q (.tuple [.str [],.int .i64 1]) H) : Cl B 14 [.agg (r.row ev)] H Q := by
 have hlen : lenOf ev = some r.ents.length := by have := he.len; rwa [List.length_map] at this
 refine f14_in fun n cl hn hcl hH hA => op_box rfl rfl (J14_19_in ?_)
 subst hcl
 have hg0 : (H ++ [AObj.var (r.row ev)])[H.length]? = some (.var (r.row ev)) := by rw [get_app0]; rfl
 refine op_fldP ?_
 rw [peekV hg0 (v := .int .i64 r.kind) (i := 0 + 0) rfl,ob_some,pInt_int,show layParts _ [(0,1,.int .i64 r.kind)] = some ((Rq.mk r.kind [] [] [] [] 0).row .nils) from rfl,ob_some]
 refine op_alloc (op_st_last rfl rfl ?_)
 have e1 : (H ++ [AObj.var (r.row ev)]).length = H.length + 1 := by simp
 rw [e1]
 have st : Sr B H (H ++ [AObj.var (r.row ev)] ++ [.var ((Rq.mk r.kind [] [] [] [] 0).row .nils)]) r ev ((Rq.mk r.kind [] [] [] [] 0).row .nils) := by
  refine ⟨⟨[.var (r.row ev),.var ((Rq.mk r.kind [] [] [] [] 0).row .nils)],by simp⟩,get_pre hg0,?_⟩
  rw [List.append_assoc,get_app]; rfl
 generalize H ++ [AObj.var (r.row ev)] ++ [.var ((Rq.mk r.kind [] [] [] [] 0).row .nils)] = G at st
 refine J14_18_in (st.fld (v := .int .i64 r.kind) (off := 0) rfl fun p => ?_)
 rw [p,ob_some,pInt_int,fb7_cell,show layParts [(.int .u8 0)] [(0,1,.int .u8 (((fb7 r.kind).toNat : Nat) : Int))] = some (brw (fb7 r.kind)) from rfl,ob_some]
 refine slK_in (op_toStr (s := [fb7 r.kind]) (sl_row1 rfl) (J14_17_in (J14_16_in ?_)))
 have st : Sr B H (G ++ [.arr (brw (fb7 r.kind))]) r ev ((Rq.mk r.kind [] [] [] [] 0).row .nils) := by
  obtain ⟨⟨L,hL⟩,s1,s2⟩ := st
  exact ⟨⟨L ++ [.arr (brw (fb7 r.kind))],by rw [hL,List.append_assoc]⟩,get_pre s1,get_pre s2⟩
 generalize G ++ [.arr (brw (fb7 r.kind))] = G at st
 have nl : ∀ {G : Heap},Sl B G 4 .nils (([] : List Ent).map Ent.row) := fun {G} => ⟨fun r hr => by simp at hr,.inl ⟨rfl,rfl⟩⟩
 have fin : ∀ {G' : Heap} {o : List AV} {ok : Bool} {only : Rq} {s : List UInt8},Sr B H G' r ev o → only = onlyQ r → ok = okR r → s = [fb7 r.kind] ++ (akF r).drop 1 → ((ok && sameRq only r) = true → tidyK n Q (.tuple [.str s,.int .i64 0]) G') ∧ ((ok && sameRq only r) = false → tidyK n Q (.tuple [.str [],.int .i64 1]) G') := fun {G' o ok only s} hs ho hok hsd => by
  obtain ⟨L,rfl⟩ := hs.pre
  subst ho hok hsd
  have e := ref_ok r
  unfold refOK at e
  refine ⟨fun h => ?_,fun h => ?_⟩
  ·rw [e] at h
   have hw : akW r = false := by simpa using h
   have := h1 hw
   rw [fb_eq (kind_in hw)]
   have e2 : [fb r.kind] ++ (akF r).drop 1 = akF r := rfl
   rw [e2]
   exact tidy_drop hn hH ⟨by simp [RV],by simp [RV],rfl⟩ this
  ·rw [e] at h
   have hw : akW r = true := by simpa using h
   exact tidy_drop hn hH ⟨by simp [RV],by simp [RV],rfl⟩ (h2 hw)
 have bad : ∀ {G' : Heap} {o : List AV},Sr B H G' r ev o → okR r = false → tidyK n Q (.tuple [.str [],.int .i64 1]) G' := fun {G' o} hs hok => by
  obtain ⟨L,rfl⟩ := hs.pre
  have e := ref_ok r
  unfold refOK at e
  rw [hok,Bool.false_and] at e
  have hw : akW r = true := by simpa using e.symm
  exact tidy_drop hn hH ⟨by simp [RV],by simp [RV],rfl⟩ (h2 hw)
 refine st.fld (v := .int .i64 r.kind) (off := 0) rfl fun p => ?_
 rw [p,ob_some,pInt_int]
 refine J14_12_in ?_
 by_cases k1 : r.kind = 1
 ·refine ib_eq_yes k1 (J14_11_in ?_)
  rw [pBool_bool,if_pos rfl]
  refine st.fld (v := ev) (off := 1) rfl fun p => ?_
  rw [p,ob_some]
  refine Sl.live he _ ?_
  have hce : ev.cells? = some [ev] := by
   obtain ⟨_,⟨rfl,_⟩ | ⟨o,off,cap,rfl,_⟩⟩ := he <;> rfl
  refine st.put (off := 1) (o2 := (Rq.mk r.kind r.ents [] [] [] 0).row ev) hce (by simp [Rq.row]) rfl fun G1 st1 => J14_1_in (st1.fld (v := ev) (off := 1) rfl fun p => ?_)
  rw [p,ob_some]
  refine Sl.live he _ ?_
  obtain ⟨L1,hL1⟩ := st1.pre
  have he1 : Sl B G1 4 ev (r.ents.map Ent.row) := by rw [hL1]; exact he.pre
  have honly : Rq.mk r.kind r.ents [] [] [] 0 = onlyQ r := by simp [onlyQ,k1]
  have ext : ∀ {K : AV → AV → Prop} {s : List UInt8} {b : Bool},K (.str s) (.bool b) → pLive (.tuple [.str s,.bool b]) fun v => aop B E0 G1 (fun x _ => aop B E0 G1 (fun y _ => K x y) (.extract (some .bool) 1 (.const v))) (.extract (some .str) 0 (.const v)) := fun {K s b} hK => by
   show pStr (.str s) fun x => pBool (.bool b) fun z => bs z (K (.str x) (.bool true)) (K (.str x) (.bool false))
   rw [pStr_str,pBool_bool]
   cases b <;> exact hK
  refine f31_ok he1 (Nat.le_trans hkl.1 (by decide)) (by simp) (fun hw => ext (J14_0_in ?_)) fun hw s' => ext (J14_0_in ?_)
  ·rw [pGuard_bool,bs_true]
   have goE : ∀ c : Bool,c = (decide ((r.ents.length : Int) ≥ 1) && decide ((r.ents.length : Int) ≤ 32)) → J14_15 B (Cl B) n (wp H.length) (oq1 H) (.str ([fb7 r.kind] ++ putF r.ents.length ++ entsB r.ents)) (.bool c) G1 Q := fun c hc => by
    have hok : c = okR r := by simp [okR,k1,hw,hc]
    obtain ⟨f1,f2⟩ := fin (only := Rq.mk r.kind r.ents [] [] [] 0) (s := [fb7 r.kind] ++ putF r.ents.length ++ entsB r.ents) st1 honly hok (by simp [akF,k1])
    exact r14_end (o := Rq.mk r.kind r.ents [] [] [] 0) st1 he he (show r.ents.length ≤ 1000000 by omega) f1 f2
   refine st1.fld (v := ev) (off := 1) rfl fun p => ?_
   rw [p,ob_some]
   refine Sl.live he _ ?_
   rw [hlen,ob_some]
   refine bs_iff.2 ⟨fun h3 => st1.fld (v := ev) (off := 1) rfl fun p => ?_,fun h3 => goE false (by rw [h3]; rfl)⟩
   rw [p,ob_some]
   refine Sl.live he _ ?_
   rw [hlen,ob_some]
   exact ib_le (goE _ (by rw [h3]; rfl))
  ·rw [pGuard_bool,bs_false]
   have hok : okR r = false := by simp [okR,k1,hw]
   exact r14_end (o := Rq.mk r.kind r.ents [] [] [] 0) st1 he he (show r.ents.length ≤ 1000000 by omega) (fun e => by simp at e) fun _ => bad st1 hok
 refine ib_eq_no k1 (J14_11_in ?_)
 rw [pBool_bool,if_neg (by simp)]
 by_cases k2 : r.kind = 2
 ·refine ib_eq_yes k2 (J14_10_in ?_)
  rw [pBool_bool,if_pos rfl]
  refine st.fld (v := .str r.key) (off := 2) rfl fun p => ?_
  rw [p,ob_some,pStr_str]
  refine st.put (off := 2) (o2 := (Rq.mk r.kind [] r.key [] [] 0).row .nils) rfl (by simp [Rq.row]) rfl fun G1 st1 => J14_2_in (st1.fld (v := .str r.key) (off := 2) rfl fun p => ?_)
  rw [p,ob_some,pStr_str]
  refine f32_ok (by simp) (by omega) ?_
  rw [pStr_str]
  refine st1.fld (v := .str r.key) (off := 2) rfl fun p => ?_
  rw [p,ob_some,pStr_str]
  refine ib_le ?_
  obtain ⟨f1,f2⟩ := fin (only := Rq.mk r.kind [] r.key [] [] 0) (s := [fb7 r.kind] ++ putF r.key.length ++ r.key) (ok := decide ((r.key.length : Int) ≤ 128)) st1 (by simp [onlyQ,k1,k2]) (by simp [okR,k1,k2]) (by simp [akF,k1,k2])
  exact r14_end (o := Rq.mk r.kind [] r.key [] [] 0) st1 he nl (by simp) f1 f2
 refine ib_eq_no k2 (J14_10_in ?_)
 rw [pBool_bool,if_neg (by simp)]
 by_cases k3 : r.kind = 3
 ·refine ib_eq_yes k3 (J14_9_in ?_)
  rw [pBool_bool,if_pos rfl]
  refine st.fld (v := .str r.lo) (off := 3) rfl fun p => ?_
  rw [p,ob_some,pStr_str]
  refine st.put (off := 3) (o2 := (Rq.mk r.kind [] [] r.lo [] 0).row .nils) rfl (by simp [Rq.row]) rfl fun G1 st1 => J14_5_in (st1.fld (v := .str r.hi) (off := 4) rfl fun p => ?_)
  rw [p,ob_some,pStr_str]
  refine st1.put (off := 4) (o2 := (Rq.mk r.kind [] [] r.lo r.hi 0).row .nils) rfl (by simp [Rq.row]) rfl fun G2 st2 => J14_4_in (st2.fld (v := .str r.lo) (off := 3) rfl fun p => ?_)
  rw [p,ob_some,pStr_str]
  refine st2.fld (v := .str r.hi) (off := 4) rfl fun p4 => ?_
  rw [p4,ob_some,pStr_str]
  refine f32_ok (by simp) (by omega) ?_
  rw [pStr_str]
  have pl := putF_small r.lo.length (by omega)
  refine ⟨?_,op_fldP (by rw [Nat.zero_add]),?_⟩
  ·rw [p4,ob_some,pStr_str]
  refine f32_ok (by simp; omega) (by omega) ?_
  rw [pStr_str]
  have goS : ∀ c : Bool,c = (decide ((r.lo.length : Int) ≤ 128) && decide ((r.hi.length : Int) ≤ 128)) → J14_15 B (Cl B) n (wp H.length) (oq1 H) (.str ([fb7 r.kind] ++ putF r.lo.length ++ r.lo ++ putF r.hi.length ++ r.hi)) (.bool c) G2 Q := fun c hc => by
   obtain ⟨f1,f2⟩ := fin (only := Rq.mk r.kind [] [] r.lo r.hi 0) (s := [fb7 r.kind] ++ putF r.lo.length ++ r.lo ++ putF r.hi.length ++ r.hi) (ok := c) st2 (by simp [onlyQ,k1,k2,k3]) (by simp [okR,k1,k2,k3,hc]) (by simp [akF,k1,k2,k3])
   exact r14_end (o := Rq.mk r.kind [] [] r.lo r.hi 0) st2 he nl (by simp) f1 f2
  refine J14_3_in (st2.fld (v := .str r.lo) (off := 3) rfl fun p => ?_)
  rw [p,ob_some,pStr_str]
  refine bs_iff.2 ⟨fun h3 => st2.fld (v := .str r.hi) (off := 4) rfl fun p => ?_,fun h3 => goS false (by rw [h3]; rfl)⟩
  rw [p,ob_some,pStr_str]
  exact ib_le (goS _ (by rw [h3]; rfl))
 refine ib_eq_no k3 (J14_9_in ?_)
 rw [pBool_bool,if_neg (by simp)]
 have go45 : r.kind = 4 ∨ r.kind = 5 → J14_8 B (Cl B) n (wp H.length) (oq1 H) (.str [fb7 r.kind]) true r.kind (.bool true) G Q := fun k45 => by
  refine J14_8_in ?_
  rw [pBool_bool,if_pos rfl]
  refine st.fld (v := .int .i64 r.epoch) (off := 5) rfl fun p => ?_
  rw [p,ob_some,pInt_int]
  refine st.put (off := 5) (o2 := (Rq.mk r.kind [] [] [] [] r.epoch).row .nils) rfl (by simp [Rq.row]) rfl fun G1 st1 => J14_7_in (st1.fld (v := .int .i64 r.epoch) (off := 5) rfl fun p => ?_)
  rw [p,ob_some,pInt_int]
  refine f33_ok ?_
  rw [pBool_bool]
  refine bs_iff.2 ⟨fun h3 => J14_6_in (st1.fld (v := .int .i64 r.epoch) (off := 5) rfl fun p => ?_),fun h3 => bad st1 (by simp [okR,k1,k2,k3,k45,h3])⟩
  rw [p,ob_some,pInt_int]
  have hnum : 0 ≤ r.epoch ∧ r.epoch ≤ 1099511627776 := by simpa [numOk] using h3
  refine f34_ok (by simp) (by omega) ?_
  rw [pStr_str]
  obtain ⟨f1,f2⟩ := fin (only := Rq.mk r.kind [] [] [] [] r.epoch) (s := [fb7 r.kind] ++ putF r.epoch.toNat) (ok := true) st1 (by simp [onlyQ,k1,k2,k3,k45]) (by simp [okR,k1,k2,k3,k45,h3]) (by simp [akF,k1,k2,k3,k45])
  exact r14_end (o := Rq.mk r.kind [] [] [] [] r.epoch) st1 he nl (by simp) f1 f2
 refine bs_iff.2 ⟨fun h3 => go45 (.inl (by simpa using h3)),fun h3 => ?_⟩
 by_cases k5 : r.kind = 5
 ·exact ib_eq_yes k5 (go45 (.inr k5))
 refine ib_eq_no k5 (J14_8_in ?_)
 rw [pBool_bool,if_neg (by simp)]
 have k4 : ¬ r.kind = 4 := by simpa using h3
 have go6 : ∀ c : Bool,c = decide (r.kind = 6) → J14_15 B (Cl B) n (wp H.length) (oq1 H) (.str [fb7 r.kind]) (.bool c) G Q := fun c hc => by
  obtain ⟨f1,f2⟩ := fin (only := Rq.mk r.kind [] [] [] [] 0) (s := [fb7 r.kind]) (ok := c) st (by simp [onlyQ,k1,k2,k3,k4,k5]) (by simp [okR,k1,k2,k3,k4,k5,hc]) (by simp [akF,k1,k2,k3,k4,k5])
  exact r14_end (o := Rq.mk r.kind [] [] [] [] 0) st he nl (by simp) f1 f2
 refine bs_iff.2 ⟨fun h6 => go6 true (by simpa using h6),fun h6 => go6 false (by simpa using h6)⟩
end
end Go.Am
namespace Go.Am
open Go
def askQ (k : Int) (st : RS) : Rq × RS :=
 if k = 1 then (⟨k,(entsQ 32 st).1,[],[],[],0⟩,(entsQ 32 st).2)
 else if k = 2 then (⟨k,[],(textQ st).1,[],[],0⟩,(textQ st).2)
 else if k = 3 then (⟨k,[],[],(textQ st).1,(textQ (textQ st).2).1,0⟩,(textQ (textQ st).2).2)
 else if k = 4 ∨ k = 5 then (⟨k,[],[],[],[],((numQ 1099511627776 st).1 : Int)⟩,(numQ 1099511627776 st).2)
 else (⟨k,[],[],[],[],0⟩,st)
def askOfQ (s : List UInt8) : Rq × RS := match s with
 | [] => (⟨0,[],[],[],[],0⟩,([],true))
 | c0 :: r => askQ (c0.toNat : Int) (r,false)
def refGood (s : List UInt8) : Bool := !(askOfQ s).2.2 && (!(akW (askOfQ s).1) && akF (askOfQ s).1 == s)
def AskQ' (B : Base) (H : Heap) (s : List UInt8) (Q : AV → Heap → Prop) : Prop :=
 (refGood s = false → ∀ L,Q (.tuple [.agg zq,.int .i64 2]) (H ++ L)) ∧ (refGood s = true → ∀ (ev : AV) L,Sl B (H ++ L) 4 ev ((askOfQ s).1.ents.map Ent.row) → Q (.tuple [.agg ((askOfQ s).1.row ev),.int .i64 0]) (H ++ L))
theorem numQ_i (st : RS) : (((numQ 1099511627776 st).1 : Nat) : Int) ≤ 9223372036854775807 := by
 have := (numQ_le 1099511627776 st).1
 omega
theorem askQ_ok {k : Int} {st : RS} (h : st.1.length ≤ 1000000) : RqOk (askQ k st).1 := by
 have z : (0 : Int) ≤ 9223372036854775807 := by decide
 have h1 := textQ_le st
 have h2 := textQ_le (textQ st).2
 have h3 := entsQ_le 32 st
 have h4 := numQ_i st
 unfold askQ
 split
 ·exact ⟨z,by show (entsQ 32 st).1.length ≤ 50; omega,Nat.zero_le _,Nat.zero_le _,Nat.zero_le _⟩
 split
 ·exact ⟨z,Nat.zero_le _,by show (textQ st).1.length ≤ _; omega,Nat.zero_le _,Nat.zero_le _⟩
 split
 ·exact ⟨z,Nat.zero_le _,Nat.zero_le _,by show (textQ st).1.length ≤ _; omega,by show (textQ (textQ st).2).1.length ≤ _; omega⟩
 split
 ·exact ⟨h4,Nat.zero_le _,Nat.zero_le _,Nat.zero_le _,Nat.zero_le _⟩
 ·exact ⟨z,Nat.zero_le _,Nat.zero_le _,Nat.zero_le _,Nat.zero_le _⟩
section
variable {B : Base} {n : Nat} {H G : Heap} {C : Nat → Option AObj} {Q : AV → Heap → Prop} {p x2 x5 : Nat} {s : List UInt8}
theorem rask_bad (h : KW H G C) {c2 : List AV} (h2 : C x2 = some (.var c2)) (hl : c2.length = 6) (hH : H.length ≤ x2) (hg : refGood s = false) (hq : AskQ' B H s Q) :
  ob (layParts [(.int .i64 0),.nils,(.str []),(.str []),(.str []),(.int .i64 0)] []) fun c4 => (aop B E0 G (fun v5 H6 => ob (peekN B H6 6 (pt x2)) fun c7 => tidyK n Q (.tuple [.agg c7,.int .i64 (2)]) H6) (.st 6 (.const (pt x2)) (.const (.agg c4)))) := by
 rw [show layParts [(.int .i64 0),.nils,(.str []),(.str []),(.str []),(.int .i64 0)] [] = some zq from rfl,ob_some]
 refine op_st (c := c2) (vs := zq) rfl rfl (h.cs x2 _ h2) (by omega) ?_
 have h3 := h.set h2 hH (.var zq)
 rw [putAt_all (by rw [hl]; rfl),show peekN B (G.set x2 (.var zq)) 6 (pt x2) = some zq from peekVN (h3.cs x2 _ updC_at) rfl,ob_some]
 obtain ⟨L,hL⟩ := h3.pre
 refine tidy_none ?_
 rw [hL]
 exact hq.1 hg L
structure AskT (B : Base) (H G : Heap) (C : Nat → Option AObj) (x2 p x5 : Nat) (r : Rq) (ev : AV) (st : RS) : Prop where
 kw : KW H G C
 c2 : C x2 = some (.var zq)
 c5 : C x5 = some (.var (r.row ev))
 rd : RqR H C p st
 gr : SlF C 0 4 ev (r.ents.map Ent.row)
 h2 : H.length ≤ x2
 h5 : H.length ≤ x5
 n25 : x2 ≠ x5
 n2p : x2 ≠ p
 n5p : x5 ≠ p
theorem rask_end {r : Rq} {ev : AV} {st : RS} (h : AskT B H G C x2 p x5 r ev st) (he : askOfQ s = (r,st)) (ho : RqOk r) (hq : AskQ' B H s Q) : J21_6 B (Cl B) n s (pt x2) (pt p) (pt x5) G Q := by
 have hk := h.kw
 refine J21_6_in ?_
 rw [show peekN B G 6 (pt x5) = some (r.row ev) from peekVN (hk.cs x5 _ h.c5) rfl,ob_some]
 have hsl : Sl B G 4 ev (r.ents.map Ent.row) := h.gr.sl hk
 have fin : ∀ (e : Int) (t : List UInt8),(decide (e = 0) && t == s) = (!(akW r) && akF r == s) → J21_5 B (Cl B) n s (pt x2) (pt p) (pt x5) (.str t) (.int .i64 e) G Q := fun e t hgood => by
  have last : ∀ d : Bool,d = !refGood s → J21_4 B (Cl B) n (pt x2) (pt x5) (.bool d) G Q := fun d hd => by
   refine J21_4_in ?_
   rw [pBool_bool]
   split
   ·rename_i e
    exact rask_bad hk h.c2 rfl h.h2 (by rw [hd] at e; simpa using e) hq
   ·rename_i e
    have g1 : refGood s = true := by rw [hd] at e; simpa using e
    rw [show peekN B G 6 (pt x5) = some (r.row ev) from peekVN (hk.cs x5 _ h.c5) rfl,ob_some]
    refine op_st (c := zq) (vs := r.row ev) rfl rfl (hk.cs x2 _ h.c2) (by simp [zq]) ?_
    have k3 := hk.set h.c2 h.h2 (.var (r.row ev))
    rw [putAt_all (show zq.length = (r.row ev).length from rfl),show peekN B (G.set x2 (.var (r.row ev))) 6 (pt x2) = some (r.row ev) from peekVN (k3.cs x2 _ updC_at) rfl,ob_some]
    have hev : Sl B (G.set x2 (.var (r.row ev))) 4 ev (r.ents.map Ent.row) := SlF.sl (SlF.upd h.c2 _ _ _ h.gr) k3
    obtain ⟨L',hL'⟩ := k3.pre
    refine tidy_none ?_
    rw [hL'] at hev ⊢
    have := hq.2 g1 ev L'
    rw [he] at this
    exact this hev
  refine J21_5_in (op_nil (op_fldP ?_))
  rw [peekV (hk.cs p _ h.rd.1) (v := .bool st.2) rfl,ob_some,pBool_bool]
  refine bs_iff.2 ⟨fun hw => last true (by unfold refGood; rw [he]; simp only [hw]; rfl),fun hw => ?_⟩
  have hgd : refGood s = (decide (e = 0) && t == s) := by unfold refGood; rw [he]; simp only [hw,hgood]; rfl
  refine int_i (bs_iff.2 ⟨fun h0 => last true ?_,fun h0 => str_u ?_⟩)
  ·have h0 : ¬ e = 0 := by simpa using h0
   rw [hgd,decide_eq_false h0]; rfl
  ·have h0 : e = 0 := by simpa using h0
   show bs (!(t == s)) _ _
   refine bs_iff.2 ⟨fun h1 => last true ?_,fun h1 => last false ?_⟩
   ·rw [hgd,decide_eq_true h0,Bool.true_and]; rw [h1]
   ·rw [hgd,decide_eq_true h0,Bool.true_and]; rw [h1]
 refine r14_ok hsl ho.1 ho.2 (fun hw => ?_) fun hw => ?_
 ·exact live_tuple (op_extS rfl (op_extI rfl (fin 0 (akF r) (by rw [hw]; rfl))))
 ·exact live_tuple (op_extS rfl (op_extI rfl (fin 1 [] (by rw [hw]; rfl))))
theorem AskT.put {r r' : Rq} {ev ev' : AV} {st : RS} (h : AskT B H G C x2 p x5 r ev st) {off : Nat} {v : AV} (hp : putAt (r.row ev) (0 + off) [v] = r'.row ev') (hv : v.cells? = some [v]) (hoff : off < 6) (hg : SlF C 0 4 ev' (r'.ents.map Ent.row))
  {K : AV → Heap → Prop} (hk : ∀ G' C',AskT B H G' C' x2 p x5 r' ev' st → K .dead G') : aop B E0 G (fun v42 _ => aop B E0 G K (.st 1 (.const v42) (.const v))) (.fieldPtr off (.const (pt x5))) := by
 refine op_fldP ?_
 refine op_st (c := r.row ev) (vs := [v]) hv rfl (h.kw.cs x5 _ h.c5) (by simp only [Rq.row,List.length_cons,List.length_nil]; omega) ?_
 rw [hp]
 exact hk _ _ ⟨h.kw.set h.c5 h.h5 _,by rw [updC_ne h.n25]; exact h.c2,updC_at,h.rd.keep fun o ho => by rw [updC_ne (Ne.symm h.n5p)]; exact ho,SlF.upd h.c5 _ _ _ hg,h.h2,h.h5,h.n25,h.n2p,h.n5p⟩
theorem AskT.read {r : Rq} {ev : AV} {st st' : RS} (h : AskT B H G C x2 p x5 r ev st) {G' : Heap} {C' : Nat → Option AObj} (k : KW H G' C') (e : Keeps1 C C' p) (rd : RqR H C' p st') : AskT B H G' C' x2 p x5 r ev st' :=
 ⟨k,e x2 _ h.n2p h.c2,e x5 _ h.n5p h.c5,rd,SlF.keep h.rd.1 e _ _ _ h.gr,h.h2,h.h5,h.n25,h.n2p,h.n5p⟩
theorem rask_switch {c0 : UInt8} {rest : List UInt8} (h : AskT B H G C x2 p x5 ⟨(c0.toNat : Int),[],[],[],[],0⟩ .nils (rest,false)) (hs : rest.length ≤ 1000000) (hq : AskQ' B H (c0 :: rest) Q) : J21_3 B (Cl B) n (c0 :: rest) (pt x2) (pt p) (pt x5) (c0.toNat : Int) G Q := by
 have e0 : askOfQ (c0 :: rest) = askQ (c0.toNat : Int) (rest,false) := rfl
 have o0 : RqOk (askQ (c0.toNat : Int) (rest,false)).1 := askQ_ok hs
 generalize (c0.toNat : Int) = kind at h e0 o0 ⊢
 have fin : ∀ {r : Rq} {ev : AV} {st : RS} (G' : Heap) (C' : Nat → Option AObj),askQ kind (rest,false) = (r,st) → AskT B H G' C' x2 p x5 r ev st → J21_6 B (Cl B) n (c0 :: rest) (pt x2) (pt p) (pt x5) G' Q := fun G' C' e h' => rask_end h' (by rw [e0,e]) (by rw [e] at o0; exact o0) hq
 refine J21_3_in (ib_eq (J21_2_in ?_))
 rw [pBool_bool]
 split
 ·rename_i k1
  have k1 := of_decide_eq_true k1
  refine f53_ok (most := 32) (by omega) h.kw h.rd hs fun v G1 C1 a1 e1 r1 l1 g1 => live_isL (slF_isL g1) ?_
  have h1 := h.read a1 e1 r1
  exact h1.put (r' := ⟨kind,(entsQ 32 (rest,false)).1,[],[],[],0⟩) (ev' := v) rfl (cells_isL (slF_isL g1)) (by decide) (SlF.low (Nat.zero_le _) _ _ _ g1) fun G' C' h' => fin G' C' (by unfold askQ; rw [if_pos k1]) h'
 rename_i k1
 have k1 : ¬ kind = 1 := fun e => k1 (decide_eq_true e)
 refine ib_eq (J21_1_in ?_)
 rw [pBool_bool]
 split
 ·rename_i k2
  have k2 := of_decide_eq_true k2
  refine f54_ok h.kw h.rd hs fun G1 C1 a1 e1 r1 l1 => str_u ?_
  have h1 := h.read a1 e1 r1
  exact h1.put (r' := ⟨kind,[],(textQ (rest,false)).1,[],[],0⟩) (ev' := .nils) rfl rfl (by decide) h1.gr fun G' C' h' => fin G' C' (by unfold askQ; rw [if_neg k1,if_pos k2]) h'
 rename_i k2
 have k2 : ¬ kind = 2 := fun e => k2 (decide_eq_true e)
 refine bs_iff.2 ⟨fun k3 => ?_,fun k3 => ?_⟩
 ·have k3 : kind = 3 := by simpa using k3
  have hs2 := (textQ_le (rest,false)).2
  refine f54_ok h.kw h.rd hs fun G1 C1 a1 e1 r1 l1 => str_u ?_
  have h1 := h.read a1 e1 r1
  refine h1.put (r' := ⟨kind,[],[],(textQ (rest,false)).1,[],0⟩) (ev' := .nils) rfl rfl (by decide) h1.gr fun G2 C2 h2 => ?_
  refine f54_ok h2.kw h2.rd (Nat.le_trans hs2 hs) fun G3 C3 a3 e3 r3 l3 => str_u ?_
  have h3 := h2.read a3 e3 r3
  exact h3.put (r' := ⟨kind,[],[],(textQ (rest,false)).1,(textQ (textQ (rest,false)).2).1,0⟩) (ev' := .nils) rfl rfl (by decide) h3.gr fun G' C' h' => fin G' C' (by unfold askQ; rw [if_neg k1,if_neg k2,if_pos k3]) h'
 have k3 : ¬ kind = 3 := by simpa using k3
 have num : ∀ d : Bool,(d = true ↔ (kind = 4 ∨ kind = 5)) → J21_0 B (Cl B) n (c0 :: rest) (pt x2) (pt p) (pt x5) (.bool d) G Q := fun d hd => by
  refine J21_0_in ?_
  rw [pBool_bool]
  split
  ·rename_i e
   refine f55_ok (most := 1099511627776) h.kw h.rd (by decide) fun G1 C1 a1 e1 r1 l1 => int_i ?_
   have h1 := h.read a1 e1 r1
   exact h1.put (r' := ⟨kind,[],[],[],[],((numQ 1099511627776 (rest,false)).1 : Int)⟩) (ev' := .nils) rfl rfl (by decide) h1.gr fun G' C' h' => fin G' C' (by unfold askQ; rw [if_neg k1,if_neg k2,if_neg k3,if_pos (hd.1 e)]) h'
  ·rename_i e
   exact fin G C (by unfold askQ; rw [if_neg k1,if_neg k2,if_neg k3,if_neg (fun e2 => e (hd.2 e2))]) h
 refine bs_iff.2 ⟨fun k4 => num true ?_,fun k4 => ib_eq (num _ ?_)⟩
 ·have k4 : kind = 4 := by simpa using k4
  simp [k4]
 ·have k4 : ¬ kind = 4 := by simpa using k4
  simp [k4]
theorem f21_ok (hs : s.length ≤ 1000000) (hq : AskQ' B H s Q) : Cl B 21 [.str s] H Q := by
 refine f21_in fun n cl hn hcl hH hA => op_alloc (J21_10_in (str_u ?_))
 subst hcl
 have k1 := (KW.zero (G := H)).add (.var zq)
 have c1 : updC (fun _ => none) H.length (.var zq) H.length = some (.var zq) := updC_at
 have eg : H ++ [AObj.var [(.int .i64 0),.nils,(.str []),(.str []),(.str []),(.int .i64 0)]] = H ++ [AObj.var zq] := rfl
 rw [eg]
 have hG1 : H.length < (H ++ [AObj.var zq]).length := by simp
 generalize updC (fun _ => none) H.length (.var zq) = C1 at k1 c1
 generalize H ++ [AObj.var zq] = G1 at k1 hG1 ⊢
 cases s with
 | nil => exact bs_yes rfl (rask_bad k1 c1 rfl (Nat.le_refl _) rfl hq)
 | cons c0 rest =>
  rw [List.length_cons] at hs
  refine bs_no rfl (J21_9_in (op_dropS (i := 1) (by simp) ?_))
  rw [List.drop_succ_cons,List.drop_zero,show layParts [(.str []),(.bool false)] [(0,1,.str rest)] = some [.str rest,.bool false] from rfl,ob_some]
  refine op_box rfl rfl (J21_8_in (op_idxS (i := 0) (c := c0) rfl ?_))
  have hc0 : c0.toNat < 256 := c0.toNat_lt
  rw [pInt_int,w64 (by omega)]
  rw [show layParts [(.int .i64 0),.nils,(.str []),(.str []),(.str []),(.int .i64 0)] [(0,1,.int .i64 (c0.toNat : Int))] = some (Rq.row ⟨(c0.toNat : Int),[],[],[],[],0⟩ .nils) from rfl,ob_some]
  refine op_alloc (op_st_last rfl rfl ?_)
  have k2 := k1.add (.var [.str rest,.bool false])
  have c12 := keeps_add (o := .var [.str rest,.bool false]) k1 _ _ c1
  have cp2 : updC C1 G1.length (.var [.str rest,.bool false]) G1.length = some (.var [.str rest,.bool false]) := updC_at
  have hG2 : G1.length < (G1 ++ [AObj.var [.str rest,.bool false]]).length := by simp
  generalize updC C1 G1.length (.var [.str rest,.bool false]) = C2 at k2 c12 cp2
  generalize hp : G1.length = p at cp2 hG1 hG2 ⊢
  generalize G1 ++ [AObj.var [.str rest,.bool false]] = G2 at k2 hG2 ⊢
  have k3 := k2.add (.var (Rq.row ⟨(c0.toNat : Int),[],[],[],[],0⟩ .nils))
  have hS : AskT B H (G2 ++ [.var (Rq.row ⟨(c0.toNat : Int),[],[],[],[],0⟩ .nils)]) _ H.length p G2.length ⟨(c0.toNat : Int),[],[],[],[],0⟩ .nils (rest,false) :=
   ⟨k3,by rw [updC_ne (by omega)]; exact c12,updC_at,⟨by rw [updC_ne (by omega)]; exact cp2,by omega⟩,slF_nil 4,Nat.le_refl _,by omega,by omega,by omega,by omega⟩
  refine J21_7_in (op_fldP ?_)
  rw [peekV (hS.kw.cs _ _ hS.c5) (v := .int .i64 (c0.toNat : Int)) rfl,ob_some,pInt_int]
  exact rask_switch hS (by omega) hq
end
end Go.Am
namespace Go.Am
open Go
def rowQ (st : RS) : List Ent × RS := entsQ 64 st
def bodyQ (k : Int) (st : RS) : Rpl × RS :=
 if k = 1 then (rp3 0 (numQ 1099511627776 st).1 0,(numQ 1099511627776 st).2)
 else if k = 2 then (rq2 (textQ st).1 (listQ ptQ 512 (textQ st).2).1,(listQ ptQ 512 (textQ st).2).2)
 else if k = 3 then (rq3 (textQ st).1 (listQ spQ 512 (textQ st).2).1,(listQ spQ 512 (textQ st).2).2)
 else if k = 4 then (rq5 (numQ 1099511627776 st).1 (textQ (numQ 1099511627776 st).2).1 [],(textQ (numQ 1099511627776 st).2).2)
 else if k = 5 then (rq5 (numQ 1099511627776 st).1 (textQ (numQ 1099511627776 st).2).1 (listQ rowQ 512 (textQ (numQ 1099511627776 st).2).2).1,(listQ rowQ 512 (textQ (numQ 1099511627776 st).2).2).2)
 else if k = 6 then (rp3 0 (numQ 1099511627776 st).1 (numQ 1099511627776 (numQ 1099511627776 st).2).1,(numQ 1099511627776 (numQ 1099511627776 st).2).2)
 else (rp3 0 0 0,st)
def sayOfQ (k : Int) (s : List UInt8) : Rpl × RS := if (numQ 10 (s,false)).1 = 0 then bodyQ k (numQ 10 (s,false)).2 else (rp3 (numQ 10 (s,false)).1 0 0,(numQ 10 (s,false)).2)
def tellGood (k : Int) (s : List UInt8) : Bool := !(sayOfQ k s).2.2 && (!(sayW k (sayOfQ k s).1) && sayF k (sayOfQ k s).1 == s)
theorem numQ_int (st : RS) : (((numQ 1099511627776 st).1 : Nat) : Int) ≤ 9223372036854775807 := by
 have := (numQ_le 1099511627776 st).1
 omega
theorem pathQ_ok (st : RS) : (pathQ st).1.length ≤ 100 ∧ ∀ d,d ∈ (pathQ st).1 → d.length = 32 := by
 have h2 : ∀ d,d ∈ (listQ digQ 64 st).1 → d.length = 32 := listQ_all (N := st.1.length) (P := fun d => d.length = 32) (fun st _ => digQ_len st) digQ_le (Nat.le_refl _)
 refine ⟨?_,h2⟩
 have := (listQ_le digQ_le 64 st).2
 unfold pathQ; omega
theorem opQ_ok {st : RS} (h : st.1.length ≤ 1000000) : OnOk (opQ st).1 := by
 have h1 := (numQ_le 1099511627776 st).2
 have h2 := (textQ_le (numQ 1099511627776 st).2).1
 exact ⟨numQ_int st,by show (textQ (numQ 1099511627776 st).2).1.length ≤ 1000000; omega,(pathQ_ok _).1,(pathQ_ok _).2⟩
theorem ptQ_ok {st : RS} (h : st.1.length ≤ 1000000) : PtOk (ptQ st).1 := by
 have h1 := (numQ_le 1 st).2
 have h2 := opQ_le (numQ 1 st).2
 unfold ptQ
 split
 ·exact ⟨opQ_ok (by omega),opQ_ok (by omega)⟩
 ·exact ⟨opQ_ok (by omega),on_zero⟩
theorem spQ_ok {st : RS} (h : st.1.length ≤ 1000000) : SnOk (spQ st).1 := by
 have h1 := (numQ_le 1099511627776 st).2
 have h2 := (listQ_le (fun st => (textQ_le st).2) 64 (numQ 1099511627776 st).2)
 refine ⟨numQ_int st,by show (listQ textQ 64 (numQ 1099511627776 st).2).1.length ≤ 100; omega,?_,(pathQ_ok _).1,(pathQ_ok _).2⟩
 have h3 : ∀ t,t ∈ (listQ textQ 64 (numQ 1099511627776 st).2).1 → t.length ≤ 1000000 := listQ_all (N := 1000000) (P := fun t => t.length ≤ 1000000) (fun st hs => Nat.le_trans (textQ_le st).1 hs) (fun st => (textQ_le st).2) (by omega)
 exact h3
theorem rowQ_le (st : RS) : (rowQ st).2.1.length ≤ st.1.length := (entsQ_le 64 st).1
theorem rowQ_ok (st : RS) : (rowQ st).1.length ≤ 100 := by
 have := (entsQ_le 64 st).2
 unfold rowQ; omega
theorem bodyQ_ok {k : Int} {st : RS} (h : st.1.length ≤ 1000000) : RpOk (bodyQ k st).1 := by
 have h1 := (numQ_le 1099511627776 st).2
 have h2 := textQ_le st
 have h3 := textQ_le (numQ 1099511627776 st).2
 have z : (0 : Int) ≤ 9223372036854775807 := by decide
 unfold bodyQ
 split
 ·exact rp3_ok' z (numQ_int _) z
 split
 ·have := (listQ_le ptQ_le 512 (textQ st).2).2
  exact ⟨z,z,z,by show (textQ st).1.length ≤ 1000000; omega,⟨by show (listQ ptQ 512 (textQ st).2).1.length ≤ 600; omega,listQ_all (N := 1000000) (fun st hs => ptQ_ok hs) ptQ_le (by omega)⟩,Nat.zero_le _,⟨Nat.zero_le _,fun _ hp => by cases hp⟩,Nat.zero_le _,⟨Nat.zero_le _,fun _ hp => by cases hp⟩⟩
 split
 ·have := (listQ_le spQ_le 512 (textQ st).2).2
  exact ⟨z,z,z,Nat.zero_le _,⟨Nat.zero_le _,fun _ hp => by cases hp⟩,by show (textQ st).1.length ≤ 1000000; omega,⟨by show (listQ spQ 512 (textQ st).2).1.length ≤ 600; omega,listQ_all (N := 1000000) (fun st hs => spQ_ok hs) spQ_le (by omega)⟩,Nat.zero_le _,⟨Nat.zero_le _,fun _ hp => by cases hp⟩⟩
 split
 ·exact ⟨z,z,numQ_int _,Nat.zero_le _,⟨Nat.zero_le _,fun _ hp => by cases hp⟩,Nat.zero_le _,⟨Nat.zero_le _,fun _ hp => by cases hp⟩,by show (textQ (numQ 1099511627776 st).2).1.length ≤ 1000000; omega,⟨Nat.zero_le _,fun _ hp => by cases hp⟩⟩
 split
 ·have := (listQ_le rowQ_le 512 (textQ (numQ 1099511627776 st).2).2).2
  exact ⟨z,z,numQ_int _,Nat.zero_le _,⟨Nat.zero_le _,fun _ hp => by cases hp⟩,Nat.zero_le _,⟨Nat.zero_le _,fun _ hp => by cases hp⟩,by show (textQ (numQ 1099511627776 st).2).1.length ≤ 1000000; omega,
   ⟨by show (listQ rowQ 512 (textQ (numQ 1099511627776 st).2).2).1.length ≤ 600; omega,listQ_all (N := 1000000) (fun st _ => rowQ_ok st) rowQ_le (by omega)⟩⟩
 split
 ·exact rp3_ok' z (numQ_int _) (numQ_int _)
 ·exact rp3_ok' z z z
theorem sayOfQ_ok {k : Int} {s : List UInt8} (h : s.length ≤ 1000000) : RpOk (sayOfQ k s).1 := by
 have h1 := numQ_le 10 (s,false)
 unfold sayOfQ
 split
 ·exact bodyQ_ok (Nat.le_trans h1.2 h)
 ·exact rp3_ok' (by omega) (by decide) (by decide)
end Go.Am
namespace Go.Am
open Go
section
variable {B : Base} {n : Nat} {H G : Heap} {C C0 : Nat → Option AObj} {Q : AV → Heap → Prop} {p x4 x7 : Nat} {s : List UInt8} {kind : Int} {c : List AV} {st : RS}
def TeQ (B : Base) (H : Heap) (kind : Int) (s : List UInt8) (Q : AV → Heap → Prop) : Prop :=
 (tellGood kind s = false → ∀ L,Q (.tuple [.agg (row3 0 0 0),.int .i64 2]) (H ++ L)) ∧ (tellGood kind s = true → ∀ c L,RpR B (H ++ L) c (sayOfQ kind s).1 → Q (.tuple [.agg c,.int .i64 0]) (H ++ L))
structure SayT (H G : Heap) (C C0 : Nat → Option AObj) (x4 p x7 : Nat) (c : List AV) (st : RS) : Prop where
 kw : KW H G C
 e0 : Keeps1 C0 C p
 n7 : C0 x7 = none
 c4 : C0 x4 = some (.var (row3 0 0 0))
 c7 : C x7 = some (.var c)
 rd : RqR H C p st
 h4 : H.length ≤ x4
 h7 : H.length ≤ x7
 n4p : x4 ≠ p
 n7p : x7 ≠ p
theorem SayT.set (h : SayT H G C C0 x4 p x7 c st) (c' : List AV) : SayT H (G.set x7 (.var c')) (updC C x7 (.var c')) C0 x4 p x7 c' st :=
 ⟨h.kw.set h.c7 h.h7 _,fun q o hq hc => by rw [updC_ne (fun e => by subst e; rw [h.n7] at hc; cases hc)]; exact h.e0 q o hq hc,h.n7,h.c4,updC_at,h.rd.keep fun o ho => by rw [updC_ne (Ne.symm h.n7p)]; exact ho,h.h4,h.h7,h.n4p,h.n7p⟩
theorem SayT.read {st' : RS} {G' : Heap} {C' : Nat → Option AObj} (h : SayT H G C C0 x4 p x7 c st) (k : KW H G' C') (e : Keeps1 C C' p) (rd : RqR H C' p st') : SayT H G' C' C0 x4 p x7 c st' :=
 ⟨k,h.e0.trans e,h.n7,h.c4,e _ _ h.n7p h.c7,rd,h.h4,h.h7,h.n4p,h.n7p⟩
theorem SayT.add (h : SayT H G C C0 x4 p x7 c st) (o : AObj) : SayT H (G ++ [o]) (updC C G.length o) C0 x4 p x7 c st :=
 h.read (h.kw.add o) (fun q o' _ hq => keeps_add h.kw q o' hq) (h.rd.keep fun o' => keeps_add h.kw p o')
theorem rsay_end {r : Rpl} (h : SayT H G C C0 x4 p x7 c st) (hm : RpM (SlF C 0) c r) (he : sayOfQ kind s = (r,st)) (hs : s.length ≤ 1000000) (hq : TeQ B H kind s Q) : J23_20 B (Cl B) n kind s (pt x4) (pt p) (pt x7) G Q := by
 have hk := h.kw
 have c4 := h.e0 _ _ h.n4p h.c4
 have ho : RpOk r := by have := sayOfQ_ok (k := kind) hs; rw [he] at this; exact this
 refine J23_20_in ?_
 rw [show peekN B G 9 (pt x7) = some c from peekVN (hk.cs x7 _ h.c7) hm.len,ob_some]
 have fin : ∀ (e : Int) (t : List UInt8),(decide (e = 0) && t == s) = (!(sayW kind r) && sayF kind r == s) → J23_19 B (Cl B) n s (pt x4) (pt p) (pt x7) (.str t) (.int .i64 e) G Q := fun e t hgood => by
  have last : ∀ d : Bool,d = !tellGood kind s → J23_18 B (Cl B) n (pt x4) (pt x7) (.bool d) G Q := fun d hd => by
   refine J23_18_in ?_
   rw [pBool_bool]
   split
   ·rename_i e
    rw [show layParts [(.int .i64 0),(.int .i64 0),(.int .i64 0),.nils,.nils,.nils,.nils,.nils,.nils] [] = some (row3 0 0 0) from rfl,ob_some]
    refine op_st (c := row3 0 0 0) (vs := row3 0 0 0) rfl rfl (hk.cs x4 _ c4) (by simp [row3]) ?_
    have k3 := hk.set c4 h.h4 (.var (row3 0 0 0))
    rw [putAt_all rfl,show peekN B (G.set x4 (.var (row3 0 0 0))) 9 (pt x4) = some (row3 0 0 0) from peekVN (k3.cs x4 _ updC_at) rfl,ob_some]
    obtain ⟨L,hL⟩ := k3.pre
    refine tidy_none ?_
    rw [hL]
    exact hq.1 (by rw [hd] at e; simpa using e) L
   ·rename_i e
    rw [show peekN B G 9 (pt x7) = some c from peekVN (hk.cs x7 _ h.c7) hm.len,ob_some]
    refine op_st (c := row3 0 0 0) (vs := c) rfl hm.len (hk.cs x4 _ c4) (by simp [row3]) ?_
    have k3 := hk.set c4 h.h4 (.var c)
    rw [putAt_all (by rw [hm.len]; rfl),show peekN B (G.set x4 (.var c)) 9 (pt x4) = some c from peekVN (k3.cs x4 _ updC_at) hm.len,ob_some]
    have hr : RpR B (G.set x4 (.var c)) c r := (hm.mono (SlF.upd c4)).sl k3
    obtain ⟨L,hL⟩ := k3.pre
    refine tidy_none ?_
    rw [hL] at hr ⊢
    have := hq.2 (by rw [hd] at e; simpa using e) c L
    rw [he] at this
    exact this hr
  refine J23_19_in (op_nil (op_fldP ?_))
  rw [peekV (hk.cs p _ h.rd.1) (v := .bool st.2) rfl,ob_some,pBool_bool]
  refine bs_iff.2 ⟨fun hw => last true (by unfold tellGood; rw [he]; simp only [hw]; rfl),fun hw => ?_⟩
  have hgd : tellGood kind s = (decide (e = 0) && t == s) := by unfold tellGood; rw [he]; simp only [hw,hgood]; rfl
  refine int_i (bs_iff.2 ⟨fun h0 => last true ?_,fun h0 => str_u ?_⟩)
  ·have h0 : ¬ e = 0 := by simpa using h0
   rw [hgd,decide_eq_false h0]; rfl
  ·have h0 : e = 0 := by simpa using h0
   show bs (!(t == s)) _ _
   refine bs_iff.2 ⟨fun h1 => last true ?_,fun h1 => last false ?_⟩
   ·rw [hgd,decide_eq_true h0,Bool.true_and]; rw [h1]
   ·rw [hgd,decide_eq_true h0,Bool.true_and]; rw [h1]
 refine f18_ok (hm.sl hk) ho (fun hw => ?_) fun hw => ?_
 ·exact live_tuple (op_extS rfl (op_extI rfl (fin 1 [] (by rw [hw]; rfl))))
 ·exact live_tuple (op_extS rfl (op_extI rfl (fin 0 _ (by rw [hw]; rfl))))
theorem SayT.put (h : SayT H G C C0 x4 p x7 c st) {off : Nat} {v : AV} {c' : List AV} (hp : putAt c (0 + off) [v] = c') (hv : v.cells? = some [v]) (hoff : off + 1 ≤ c.length)
  {K : AV → Heap → Prop} (hk : SayT H (G.set x7 (.var c')) (updC C x7 (.var c')) C0 x4 p x7 c' st → K .dead (G.set x7 (.var c'))) : aop B E0 G (fun v42 _ => aop B E0 G K (.st 1 (.const v42) (.const v))) (.fieldPtr off (.const (pt x7))) := by
 refine op_fldP (op_st (c := c) (vs := [v]) hv rfl (h.kw.cs x7 _ h.c7) (by omega) ?_)
 rw [hp]
 exact hk (h.set c')
def r9 (a b : Int) (v3 v4 v5 v6 v7 v8 : AV) : List AV := [.int .i64 0,.int .i64 a,.int .i64 b,v3,v4,v5,v6,v7,v8]
theorem rsay_pts {t : List UInt8} {pv : AV} {N : Nat} (hN : N ≤ 512) (hs : s.length ≤ 1000000) (hq : TeQ B H kind s Q) (h4 : H.length ≤ x4) (h7 : H.length ≤ x7) (n4p : x4 ≠ p) (n7p : x7 ≠ p) (n7 : C0 x7 = none) (c4 : C0 x4 = some (.var (row3 0 0 0))) :
  ∀ (f i : Nat) (G : Heap) (C : Nat → Option AObj) (v : AV) (cs : List (List AV)) (acc : List Pnt) (st : RS),i + f = N → cs.length = i → Lst H C0 0 p 7 PtM G C st v cs acc → C x7 = some (.var (r9 0 0 pv v .nils .nils .nils .nils)) → BsM (SlF C 0) pv t → st.1.length ≤ 1000000 → sayOfQ kind s = (rq2 t (goQ ptQ f acc st).1,(goQ ptQ f acc st).2) →
   L23_3 B (Cl B) n kind s (pt x4) (pt p) (pt x7) (N : Int) (i : Int) G Q := by
 have hbig : maxBytes = 140737488355328 := rfl
 intro f
 have fin : ∀ (G : Heap) (C : Nat → Option AObj) (v : AV) (cs : List (List AV)) (acc : List Pnt) (st : RS),Lst H C0 0 p 7 PtM G C st v cs acc → C x7 = some (.var (r9 0 0 pv v .nils .nils .nils .nils)) → BsM (SlF C 0) pv t → sayOfQ kind s = (rq2 t acc,st) → J23_20 B (Cl B) n kind s (pt x4) (pt p) (pt x7) G Q := fun G C v cs acc st z cx hb he => by
  obtain ⟨C2,k2,s2,r2,le⟩ := z.done pt_mono
  have hb2 : BsM (SlF C2 0) pv t := hb.mono fun _ _ _ h => h.mono (Nat.le_refl _) fun j o _ hj => s2 j _ hj
  exact rsay_end (r := rq2 t acc) ⟨k2,fun q o hq hc => s2 q o (z.e q o hq hc),n7,c4,s2 _ _ cx,r2,h4,h7,n4p,n7p⟩ ⟨pv,v,.nils,.nils,.nils,.nils,rfl,hb2,le,slF_nil 1,⟨[],slF_nil 3,F2.nil⟩,slF_nil 1,⟨[],slF_nil 1,F2.nil⟩⟩ he hs hq
 induction f with
 | zero =>
  intro i G C v cs acc st hif hl z cx hb hs' hgo
  exact L23_3_in (ACall.cle B table) (bs_no (decide_eq_false (by omega)) (fin G C v cs acc st z cx hb hgo))
 | succ f ih =>
  intro i G C v cs acc st hif hl z cx hb hs' hgo
  refine L23_3_in (ACall.cle B table) (bs_yes (decide_eq_true (by omega)) (op_nil (op_fldP ?_)))
  rw [peekV (z.k.cs p _ z.r.1) (v := .bool st.2) rfl,ob_some,pBool_bool]
  refine bs_iff.2 ⟨fun hw => fin G C v cs acc st z cx hb (by simpa only [goQ,hw,if_true] using hgo),fun hw => ?_⟩
  simp only [goQ,hw] at hgo
  obtain ⟨D1,kD,sD,rD,back⟩ := z.call pt_mono
  refine J23_2_in (f57_ok kD rD hs' fun x G2 D2 k2 e2 r2 l2 hx => live_agg' (op_alloc ?_))
  obtain ⟨C3,z3,keep3,sup3⟩ := back G2 D2 _ k2 e2 r2 l2
  have hx3 : PtM (SlF C3 0) x (ptQ st).1 := hx.mono fun _ _ _ h => h.mono (Nat.zero_le _) fun j o hj hc => sup3 j _ hj hc
  have cx3 := keep3 _ _ n7p cx
  have hb3 : BsM (SlF C3 0) pv t := hb.mono (SlF.keep z.r.1 keep3)
  have h7x := hx.seven
  have z4 := z3.add pt_mono (.var x)
  have cx4 := keeps_add (o := .var x) z3.k _ _ cx3
  have hb4 := hb3.mono (SlF.add (o := .var x) z3.k)
  have hx4 := hx3.mono (SlF.add (o := .var x) z3.k)
  refine op_st_last rfl h7x (J23_0_in (op_fldP (op_fldP ?_)))
  rw [peekV (z4.k.cs _ _ cx4) (v := v) rfl,ob_some]
  refine z4.a.live ?_
  rw [peekVN (n := 7) (by rw [get_app0]; rfl) h7x,ob_some,lay_row (n := 7) rfl h7x,ob_some]
  refine slK_in ?_
  refine z4.app (x := (ptQ st).1) (row := x) h7x hx4 (by rw [hl]; omega) fun v' G8 z8 => op_fldP (op_fldP ?_)
  refine op_st (c := r9 0 0 pv v .nils .nils .nils .nils) (vs := [v']) z8.a.cells rfl (z8.k.cs _ _ cx4) (by simp [r9]) ?_
  rw [show putAt (r9 0 0 pv v .nils .nils .nils .nils) (0 + 3 + 1) [v'] = r9 0 0 pv v' .nils .nils .nils .nils from rfl]
  have z9 := z8.setv pt_mono (c' := r9 0 0 pv v' .nils .nils .nils .nils) cx4 n7 h7 n7p
  refine J23_1_in ?_
  rw [w64 (by omega)]
  exact ih (i + 1) _ _ v' _ _ _ (by omega) (by rw [List.length_append,hl]; rfl) z9 updC_at (hb4.mono (SlF.upd cx4)) (Nat.le_trans (ptQ_le st) hs') hgo
theorem rsay_sns {t : List UInt8} {pv : AV} {N : Nat} (hN : N ≤ 512) (hs : s.length ≤ 1000000) (hq : TeQ B H kind s Q) (h4 : H.length ≤ x4) (h7 : H.length ≤ x7) (n4p : x4 ≠ p) (n7p : x7 ≠ p) (n7 : C0 x7 = none) (c4 : C0 x4 = some (.var (row3 0 0 0))) :
  ∀ (f i : Nat) (G : Heap) (C : Nat → Option AObj) (v : AV) (cs : List (List AV)) (acc : List Spn) (st : RS),i + f = N → cs.length = i → Lst H C0 0 p 3 SnM G C st v cs acc → C x7 = some (.var (r9 0 0 .nils .nils pv v .nils .nils)) → BsM (SlF C 0) pv t → st.1.length ≤ 1000000 → sayOfQ kind s = (rq3 t (goQ spQ f acc st).1,(goQ spQ f acc st).2) →
   L23_7 B (Cl B) n kind s (pt x4) (pt p) (pt x7) (N : Int) (i : Int) G Q := by
 have hbig : maxBytes = 140737488355328 := rfl
 intro f
 have fin : ∀ (G : Heap) (C : Nat → Option AObj) (v : AV) (cs : List (List AV)) (acc : List Spn) (st : RS),Lst H C0 0 p 3 SnM G C st v cs acc → C x7 = some (.var (r9 0 0 .nils .nils pv v .nils .nils)) → BsM (SlF C 0) pv t → sayOfQ kind s = (rq3 t acc,st) → J23_20 B (Cl B) n kind s (pt x4) (pt p) (pt x7) G Q := fun G C v cs acc st z cx hb he => by
  obtain ⟨C2,k2,s2,r2,le⟩ := z.done sn_mono
  have hb2 : BsM (SlF C2 0) pv t := hb.mono fun _ _ _ h => h.mono (Nat.le_refl _) fun j o _ hj => s2 j _ hj
  exact rsay_end (r := rq3 t acc) ⟨k2,fun q o hq hc => s2 q o (z.e q o hq hc),n7,c4,s2 _ _ cx,r2,h4,h7,n4p,n7p⟩ ⟨.nils,.nils,pv,v,.nils,.nils,rfl,slF_nil 1,⟨[],slF_nil 7,F2.nil⟩,hb2,le,slF_nil 1,⟨[],slF_nil 1,F2.nil⟩⟩ he hs hq
 induction f with
 | zero =>
  intro i G C v cs acc st hif hl z cx hb hs' hgo
  exact L23_7_in (ACall.cle B table) (bs_no (decide_eq_false (by omega)) (fin G C v cs acc st z cx hb hgo))
 | succ f ih =>
  intro i G C v cs acc st hif hl z cx hb hs' hgo
  refine L23_7_in (ACall.cle B table) (bs_yes (decide_eq_true (by omega)) (op_nil (op_fldP ?_)))
  rw [peekV (z.k.cs p _ z.r.1) (v := .bool st.2) rfl,ob_some,pBool_bool]
  refine bs_iff.2 ⟨fun hw => fin G C v cs acc st z cx hb (by simpa only [goQ,hw,if_true] using hgo),fun hw => ?_⟩
  simp only [goQ,hw] at hgo
  obtain ⟨D1,kD,sD,rD,back⟩ := z.call sn_mono
  refine J23_6_in (f58_ok kD rD hs' fun x G2 D2 k2 e2 r2 l2 hx => live_agg' (op_alloc ?_))
  obtain ⟨C3,z3,keep3,sup3⟩ := back G2 D2 _ k2 e2 r2 l2
  have hx3 : SnM (SlF C3 0) x (spQ st).1 := hx.mono fun _ _ _ h => h.mono (Nat.zero_le _) fun j o hj hc => sup3 j _ hj hc
  have cx3 := keep3 _ _ n7p cx
  have hb3 : BsM (SlF C3 0) pv t := hb.mono (SlF.keep z.r.1 keep3)
  have h7x := hx.three
  have z4 := z3.add sn_mono (.var x)
  have cx4 := keeps_add (o := .var x) z3.k _ _ cx3
  have hb4 := hb3.mono (SlF.add (o := .var x) z3.k)
  have hx4 := hx3.mono (SlF.add (o := .var x) z3.k)
  refine op_st_last rfl h7x (J23_4_in (op_fldP (op_fldP ?_)))
  rw [peekV (z4.k.cs _ _ cx4) (v := v) rfl,ob_some]
  refine z4.a.live ?_
  rw [peekVN (n := 3) (by rw [get_app0]; rfl) h7x,ob_some,lay_row (n := 3) rfl h7x,ob_some]
  refine slK_in ?_
  refine z4.app (x := (spQ st).1) (row := x) h7x hx4 (by rw [hl]; omega) fun v' G8 z8 => op_fldP (op_fldP ?_)
  refine op_st (c := r9 0 0 .nils .nils pv v .nils .nils) (vs := [v']) z8.a.cells rfl (z8.k.cs _ _ cx4) (by simp [r9]) ?_
  rw [show putAt (r9 0 0 .nils .nils pv v .nils .nils) (0 + 5 + 1) [v'] = r9 0 0 .nils .nils pv v' .nils .nils from rfl]
  have z9 := z8.setv sn_mono (c' := r9 0 0 .nils .nils pv v' .nils .nils) cx4 n7 h7 n7p
  refine J23_5_in ?_
  rw [w64 (by omega)]
  exact ih (i + 1) _ _ v' _ _ _ (by omega) (by rw [List.length_append,hl]; rfl) z9 updC_at (hb4.mono (SlF.upd cx4)) (Nat.le_trans (spQ_le st) hs') hgo
end
end Go.Am
namespace Go.Am
open Go
abbrev RwE : MM → List AV → List Ent → Prop := fun M x l => ∃ u,x = [u] ∧ EsM M u l
theorem rw_mono : EMono RwE := fun _ _ _ _ h ⟨u,e,hx⟩ => ⟨u,e,h _ _ _ hx⟩
theorem le_rows {M : MM} {v : AV} {l : List (List Ent)} (h : LE 1 RwE M v l) : LV EsM M v l := by
 obtain ⟨cs,h1,h2⟩ := h
 have hd : ∀ x,x ∈ cs → [x.headD .nils] = x := fun x hx => by
  obtain ⟨i,hi⟩ := List.mem_iff_getElem?.1 hx
  have hi2 : i < l.length := by rw [← h2.1]; exact in_some hi
  obtain ⟨u,e,_⟩ := h2.2 i x _ hi (List.getElem?_eq_getElem hi2)
  rw [e]; rfl
 refine ⟨cs.map fun x => x.headD .nils,?_,by simp [h2.1],fun i u t hu ht => ?_⟩
 ·rw [List.map_map]
  have : (cs.map ((fun u => [u]) ∘ fun x : List AV => x.headD .nils)) = cs := by
   conv => rhs; rw [← List.map_id cs]
   exact List.map_congr_left fun x hx => hd x hx
  rw [this]; exact h1
 ·rw [List.getElem?_map] at hu
  obtain ⟨x,hx,rfl⟩ := Option.map_eq_some_iff.1 hu
  obtain ⟨u,e,hb⟩ := h2.2 i x t hx ht
  rw [e]; exact hb
section
variable {B : Base} {n : Nat} {H G : Heap} {C C0 : Nat → Option AObj} {Q : AV → Heap → Prop} {p x4 x7 : Nat} {s : List UInt8} {kind : Int} {c : List AV} {st : RS}
theorem rsay_rows {t : List UInt8} {pv : AV} {N : Nat} {ep : Int} (hN : N ≤ 512) (hs : s.length ≤ 1000000) (hq : TeQ B H kind s Q) (h4 : H.length ≤ x4) (h7 : H.length ≤ x7) (n4p : x4 ≠ p) (n7p : x7 ≠ p) (n7 : C0 x7 = none) (c4 : C0 x4 = some (.var (row3 0 0 0))) :
  ∀ (f i : Nat) (G : Heap) (C : Nat → Option AObj) (v : AV) (cs : List (List AV)) (acc : List (List Ent)) (st : RS),i + f = N → cs.length = i → Lst H C0 0 p 1 RwE G C st v cs acc → C x7 = some (.var (r9 0 ep .nils .nils .nils .nils pv v)) → BsM (SlF C 0) pv t → st.1.length ≤ 1000000 → sayOfQ kind s = (rq5 ep t (goQ rowQ f acc st).1,(goQ rowQ f acc st).2) →
   L23_10 B (Cl B) n kind s (pt x4) (pt p) (pt x7) (N : Int) (i : Int) G Q := by
 have hbig : maxBytes = 140737488355328 := rfl
 intro f
 have fin : ∀ (G : Heap) (C : Nat → Option AObj) (v : AV) (cs : List (List AV)) (acc : List (List Ent)) (st : RS),Lst H C0 0 p 1 RwE G C st v cs acc → C x7 = some (.var (r9 0 ep .nils .nils .nils .nils pv v)) → BsM (SlF C 0) pv t → sayOfQ kind s = (rq5 ep t acc,st) → J23_20 B (Cl B) n kind s (pt x4) (pt p) (pt x7) G Q := fun G C v cs acc st z cx hb he => by
  obtain ⟨C2,k2,s2,r2,le⟩ := z.done rw_mono
  have hb2 : BsM (SlF C2 0) pv t := hb.mono fun _ _ _ h => h.mono (Nat.le_refl _) fun j o _ hj => s2 j _ hj
  exact rsay_end (r := rq5 ep t acc) ⟨k2,fun q o hq hc => s2 q o (z.e q o hq hc),n7,c4,s2 _ _ cx,r2,h4,h7,n4p,n7p⟩ ⟨.nils,.nils,.nils,.nils,pv,v,rfl,slF_nil 1,⟨[],slF_nil 7,F2.nil⟩,slF_nil 1,⟨[],slF_nil 3,F2.nil⟩,hb2,le_rows le⟩ he hs hq
 induction f with
 | zero =>
  intro i G C v cs acc st hif hl z cx hb hs' hgo
  exact L23_10_in (ACall.cle B table) (bs_no (decide_eq_false (by omega)) (fin G C v cs acc st z cx hb hgo))
 | succ f ih =>
  intro i G C v cs acc st hif hl z cx hb hs' hgo
  refine L23_10_in (ACall.cle B table) (bs_yes (decide_eq_true (by omega)) (op_nil (op_fldP ?_)))
  rw [peekV (z.k.cs p _ z.r.1) (v := .bool st.2) rfl,ob_some,pBool_bool]
  refine bs_iff.2 ⟨fun hw => fin G C v cs acc st z cx hb (by simpa only [goQ,hw,if_true] using hgo),fun hw => ?_⟩
  simp only [goQ,hw] at hgo
  obtain ⟨D1,kD,sD,rD,back⟩ := z.call rw_mono
  refine J23_9_in (f53_ok (most := 64) (by omega) kD rD hs' fun u G2 D2 k2 e2 r2 l2 hx => live_isL (slF_isL hx) (op_fldP ?_))
  obtain ⟨C3,z3,keep3,sup3⟩ := back G2 D2 _ k2 e2 r2 l2
  have hx3 : EsM (SlF C3 0) u (rowQ st).1 := SlF.mono hx (Nat.zero_le _) fun j o hj hc => sup3 j _ hj hc
  have cx3 := keep3 _ _ n7p cx
  have hb3 : BsM (SlF C3 0) pv t := hb.mono (SlF.keep z.r.1 keep3)
  rw [peekV (z3.k.cs _ _ cx3) (v := v) rfl,ob_some]
  refine z3.a.live ?_
  rw [show layParts [.nils] [(0,1,u)] = some [u] from lay_one (cells_isL (slF_isL hx)) rfl,ob_some]
  refine slK_in ?_
  refine z3.app (x := (rowQ st).1) (row := [u]) rfl ⟨u,rfl,hx3⟩ (by rw [hl]; omega) fun v' G8 z8 => op_fldP ?_
  refine op_st (c := r9 0 ep .nils .nils .nils .nils pv v) (vs := [v']) z8.a.cells rfl (z8.k.cs _ _ cx3) (by simp [r9]) ?_
  rw [show putAt (r9 0 ep .nils .nils .nils .nils pv v) (0 + 8) [v'] = r9 0 ep .nils .nils .nils .nils pv v' from rfl]
  have z9 := z8.setv rw_mono (c' := r9 0 ep .nils .nils .nils .nils pv v') cx3 n7 h7 n7p
  refine J23_8_in ?_
  rw [w64 (by omega)]
  exact ih (i + 1) _ _ v' _ _ _ (by omega) (by rw [List.length_append,hl]; rfl) z9 updC_at (hb3.mono (SlF.upd cx3)) (Nat.le_trans (rowQ_le st) hs') hgo
theorem rsay_zero {a b : Int} (h : SayT H G C C0 x4 p x7 (r9 a b .nils .nils .nils .nils .nils .nils) st) (he : sayOfQ kind s = (rp3 0 a b,st)) (hs : s.length ≤ 1000000) (hq : TeQ B H kind s Q) : J23_20 B (Cl B) n kind s (pt x4) (pt p) (pt x7) G Q :=
 rsay_end h (rp3_m slF_nil) he hs hq
theorem SayT.text (h : SayT H G C C0 x4 p x7 c st) (hs : st.1.length ≤ 1000000) {off : Nat} {c' : AV → List AV} (hp : ∀ v,putAt c (0 + off) [v] = c' v) (hoff : off + 1 ≤ c.length) {K : AV → Heap → Prop}
  (hk : ∀ v G' C',SayT H G' C' C0 x4 p x7 (c' v) (textQ st).2 → BsM (SlF C' 0) v (textQ st).1 → K .dead G') :
  Cl B 54 [pt p] G fun v1 H1 => pStr v1 fun s1 => aop B E0 H1 (fun v2 H2 => aop B E0 H2 (fun v3 _ => aop B E0 H2 K (.st 1 (.const v3) (.const v2))) (.fieldPtr off (.const (pt x7)))) (.toBytes (.const (.str s1))) := by
 refine f54_ok h.kw h.rd hs fun G1 C1 k1 e1 r1 l1 => str_u (op_toBy' ?_)
 have h1 := (h.read k1 e1 r1).add (.arr ((textQ st).1.map brw).flatten)
 have b1 := slF_new (C := C1) (t := (textQ st).1) (k0 := 0) (G := G1) (Nat.zero_le _)
 refine h1.put (hp _) (cells_isL (slF_isL b1)) hoff fun h2 => hk _ _ _ h2 ?_
 exact SlF.upd h1.c7 _ _ _ b1
theorem SayT.put2 (h : SayT H G C C0 x4 p x7 c st) {o1 o2 : Nat} {v : AV} {c' : List AV} (hp : putAt c (0 + o1 + o2) [v] = c') (hv : v.cells? = some [v]) (hoff : o1 + o2 + 1 ≤ c.length)
  {K : AV → Heap → Prop} (hk : SayT H (G.set x7 (.var c')) (updC C x7 (.var c')) C0 x4 p x7 c' st → K .dead (G.set x7 (.var c'))) : aop B E0 G (fun v0 _ => aop B E0 G (fun v42 _ => aop B E0 G K (.st 1 (.const v42) (.const v))) (.fieldPtr o2 (.const v0))) (.fieldPtr o1 (.const (pt x7))) := by
 refine op_fldP (op_fldP (op_st (c := c) (vs := [v]) hv rfl (h.kw.cs x7 _ h.c7) (by omega) ?_))
 rw [hp]
 exact hk (h.set c')
theorem SayT.lst {α : Type} {es : Nat} {E : MM → List AV → α → Prop} (h : SayT H G C C0 x4 p x7 c st) : Lst H C0 0 p es E G C st .nils [] [] := Lst.zero h.kw h.e0 h.rd (Nat.zero_le _)
theorem rsay_main (h : SayT H G C C0 x4 p x7 (row3 0 0 0) st) (hst : st.1.length ≤ 1000000) (he : sayOfQ kind s = bodyQ kind st) (hs : s.length ≤ 1000000) (hq : TeQ B H kind s Q) : J23_16 B (Cl B) n kind s (pt x4) (pt p) (pt x7) kind G Q := by
 have s1 := (numQ_le 1099511627776 st).2
 have s2 := (textQ_le st).2
 have s3 := (textQ_le (numQ 1099511627776 st).2).2
 refine J23_16_in (ib_eq (J23_15_in ?_))
 rw [pBool_bool]
 split
 ·rename_i k1
  have k1 := of_decide_eq_true k1
  refine f55_ok (most := 1099511627776) h.kw h.rd (by decide) fun G1 C1 a1 e1 r1 l1 => int_i ?_
  exact (h.read a1 e1 r1).put (off := 1) (c' := r9 ((numQ 1099511627776 st).1 : Int) 0 .nils .nils .nils .nils .nils .nils) rfl rfl (by simp [row3]) fun h1 => rsay_zero h1 (by rw [he]; unfold bodyQ; rw [if_pos k1]) hs hq
 rename_i k1
 have k1 : ¬ kind = 1 := fun e => k1 (decide_eq_true e)
 refine ib_eq (J23_14_in ?_)
 rw [pBool_bool]
 split
 ·rename_i k2
  have k2 := of_decide_eq_true k2
  have hb : bodyQ kind st = (rq2 (textQ st).1 (listQ ptQ 512 (textQ st).2).1,(listQ ptQ 512 (textQ st).2).2) := by unfold bodyQ; rw [if_neg k1,if_pos k2]
  rw [hb] at he
  refine f54_ok h.kw h.rd hst fun G1 C1 a1 e1 r1 l1 => str_u (op_toBy' ?_)
  have h1 := (h.read a1 e1 r1).add (.arr ((textQ st).1.map brw).flatten)
  have b1 := slF_new (C := C1) (t := (textQ st).1) (k0 := 0) (G := G1) (Nat.zero_le _)
  refine h1.put2 (c' := r9 0 0 (.slice (.new G1.length) 0 (textQ st).1.length 1 none) .nils .nils .nils .nils .nils) rfl (cells_isL (slF_isL b1)) (by simp [row3]) fun h2 => ?_
  have b2 := fun o => SlF.upd (o := o) h1.c7 _ _ _ b1
  have hm := numQ_le 512 (textQ st).2
  refine f55_ok (most := 512) h2.kw h2.rd (by decide) fun G3 C3 a3 e3 r3 l3 => int_i ?_
  have h3 := h2.read a3 e3 r3
  exact rsay_pts hm.1 hs hq h.h4 h.h7 h.n4p h.n7p h.n7 h.c4 (numQ 512 (textQ st).2).1 0 G3 C3 .nils [] [] _ (Nat.zero_add _) rfl h3.lst h3.c7 (SlF.keep h2.rd.1 e3 _ _ _ (b2 _)) (by omega) he
 rename_i k2
 have k2 : ¬ kind = 2 := fun e => k2 (decide_eq_true e)
 refine ib_eq (J23_13_in ?_)
 rw [pBool_bool]
 split
 ·rename_i k3
  have k3 := of_decide_eq_true k3
  have hb : bodyQ kind st = (rq3 (textQ st).1 (listQ spQ 512 (textQ st).2).1,(listQ spQ 512 (textQ st).2).2) := by unfold bodyQ; rw [if_neg k1,if_neg k2,if_pos k3]
  rw [hb] at he
  refine f54_ok h.kw h.rd hst fun G1 C1 a1 e1 r1 l1 => str_u (op_toBy' ?_)
  have h1 := (h.read a1 e1 r1).add (.arr ((textQ st).1.map brw).flatten)
  have b1 := slF_new (C := C1) (t := (textQ st).1) (k0 := 0) (G := G1) (Nat.zero_le _)
  refine h1.put2 (c' := r9 0 0 .nils .nils (.slice (.new G1.length) 0 (textQ st).1.length 1 none) .nils .nils .nils) rfl (cells_isL (slF_isL b1)) (by simp [row3]) fun h2 => ?_
  have b2 := fun o => SlF.upd (o := o) h1.c7 _ _ _ b1
  have hm := numQ_le 512 (textQ st).2
  refine f55_ok (most := 512) h2.kw h2.rd (by decide) fun G3 C3 a3 e3 r3 l3 => int_i ?_
  have h3 := h2.read a3 e3 r3
  exact rsay_sns hm.1 hs hq h.h4 h.h7 h.n4p h.n7p h.n7 h.c4 (numQ 512 (textQ st).2).1 0 G3 C3 .nils [] [] _ (Nat.zero_add _) rfl h3.lst h3.c7 (SlF.keep h2.rd.1 e3 _ _ _ (b2 _)) (by omega) he
 rename_i k3
 have k3 : ¬ kind = 3 := fun e => k3 (decide_eq_true e)
 have go45 : kind = 4 ∨ kind = 5 → J23_12 B (Cl B) n kind s (pt x4) (pt p) (pt x7) kind (.bool true) G Q := fun k45 => by
  refine J23_12_in ?_
  rw [pBool_bool,if_pos rfl]
  refine f55_ok (most := 1099511627776) h.kw h.rd (by decide) fun G1 C1 a1 e1 r1 l1 => int_i ?_
  refine (h.read a1 e1 r1).put (off := 2) (c' := r9 0 ((numQ 1099511627776 st).1 : Int) .nils .nils .nils .nils .nils .nils) rfl rfl (by simp [row3]) fun h1 => J23_11_in ?_
  refine h1.text (off := 7) (c' := fun v => r9 0 ((numQ 1099511627776 st).1 : Int) .nils .nils .nils .nils v .nils) (by omega) (fun v => rfl) (by simp [r9]) fun v G3 C3 h3 b3 => ?_
  refine bs_iff.2 ⟨fun h5 => ?_,fun h5 => ?_⟩
  ·have k5 : kind = 5 := by simpa using h5
   have hb : bodyQ kind st = (rq5 (numQ 1099511627776 st).1 (textQ (numQ 1099511627776 st).2).1 (listQ rowQ 512 (textQ (numQ 1099511627776 st).2).2).1,(listQ rowQ 512 (textQ (numQ 1099511627776 st).2).2).2) := by unfold bodyQ; rw [if_neg k1,if_neg k2,if_neg k3,if_neg (by omega),if_pos k5]
   rw [hb] at he
   have hm := numQ_le 512 (textQ (numQ 1099511627776 st).2).2
   refine f55_ok (most := 512) h3.kw h3.rd (by decide) fun G4 C4 a4 e4 r4 l4 => int_i ?_
   have h4 := h3.read a4 e4 r4
   exact rsay_rows hm.1 hs hq h.h4 h.h7 h.n4p h.n7p h.n7 h.c4 (numQ 512 (textQ (numQ 1099511627776 st).2).2).1 0 G4 C4 .nils [] [] _ (Nat.zero_add _) rfl h4.lst h4.c7 (b3.mono (SlF.keep h3.rd.1 e4)) (by omega) he
  ·have k5 : ¬ kind = 5 := by simpa using h5
   have hb : bodyQ kind st = (rq5 (numQ 1099511627776 st).1 (textQ (numQ 1099511627776 st).2).1 [],(textQ (numQ 1099511627776 st).2).2) := by unfold bodyQ; rw [if_neg k1,if_neg k2,if_neg k3,if_pos (by omega)]
   rw [hb] at he
   exact rsay_end h3 (r := rq5 (numQ 1099511627776 st).1 (textQ (numQ 1099511627776 st).2).1 []) ⟨.nils,.nils,.nils,.nils,v,.nils,rfl,slF_nil 1,⟨[],slF_nil 7,F2.nil⟩,slF_nil 1,⟨[],slF_nil 3,F2.nil⟩,b3,⟨[],slF_nil 1,F2.nil⟩⟩ he hs hq
 refine bs_iff.2 ⟨fun h4 => go45 (.inl (by simpa using h4)),fun h4 => ?_⟩
 have k4 : ¬ kind = 4 := by simpa using h4
 by_cases k5 : kind = 5
 ·exact ib_eq_yes k5 (go45 (.inr k5))
 refine ib_eq_no k5 (J23_12_in ?_)
 rw [pBool_bool,if_neg (by decide)]
 refine bs_iff.2 ⟨fun h6 => ?_,fun h6 => ?_⟩
 ·have k6 : kind = 6 := by simpa using h6
  have hb : bodyQ kind st = (rp3 0 (numQ 1099511627776 st).1 (numQ 1099511627776 (numQ 1099511627776 st).2).1,(numQ 1099511627776 (numQ 1099511627776 st).2).2) := by unfold bodyQ; rw [if_neg k1,if_neg k2,if_neg k3,if_neg k4,if_neg k5,if_pos k6]
  rw [hb] at he
  refine f55_ok (most := 1099511627776) h.kw h.rd (by decide) fun G1 C1 a1 e1 r1 l1 => int_i ?_
  refine (h.read a1 e1 r1).put (off := 1) (c' := r9 ((numQ 1099511627776 st).1 : Int) 0 .nils .nils .nils .nils .nils .nils) rfl rfl (by simp [row3]) fun h1 => ?_
  refine f55_ok (most := 1099511627776) h1.kw h1.rd (by decide) fun G3 C3 a3 e3 r3 l3 => int_i ?_
  exact (h1.read a3 e3 r3).put (off := 2) (c' := r9 ((numQ 1099511627776 st).1 : Int) ((numQ 1099511627776 (numQ 1099511627776 st).2).1 : Int) .nils .nils .nils .nils .nils .nils) rfl rfl (by simp [r9]) fun h4 => rsay_zero h4 he hs hq
 ·have k6 : ¬ kind = 6 := by simpa using h6
  have hb : bodyQ kind st = (rp3 0 0 0,st) := by unfold bodyQ; rw [if_neg k1,if_neg k2,if_neg k3,if_neg k4,if_neg k5,if_neg k6]
  rw [hb] at he
  exact rsay_zero (a := 0) (b := 0) h he hs hq
theorem f23_ok (hs : s.length ≤ 1000000) (hq : TeQ B H kind s Q) : Cl B 23 [.int .i64 kind,.str s] H Q := by
 refine f23_in fun n cl hn hcl hH hA => op_alloc (J23_23_in ?_)
 subst hcl
 rw [show layParts [(.str []),(.bool false)] [(0,1,.str s)] = some [.str s,.bool false] from rfl,ob_some]
 refine op_box rfl rfl ?_
 have k1 := (KW.zero (G := H)).add (.var (row3 0 0 0))
 have k2 := k1.add (.var [.str s,.bool false])
 have hl : (H ++ [AObj.var (row3 0 0 0)]).length = H.length + 1 := by simp
 have h1 : H.length < (H ++ [AObj.var (row3 0 0 0)]).length := by rw [hl]; omega
 have c4 := keeps_add (o := .var [.str s,.bool false]) k1 _ _ (updC_at (C := fun _ => none) (p := H.length) (o := .var (row3 0 0 0)))
 have cp : updC (updC (fun _ => none) H.length (.var (row3 0 0 0))) (H ++ [AObj.var (row3 0 0 0)]).length (.var [.str s,.bool false]) (H ++ [AObj.var (row3 0 0 0)]).length = some (.var [.str s,.bool false]) := updC_at
 show J23_22 B (Cl B) n kind s (pt H.length) (pt (H ++ [AObj.var (row3 0 0 0)]).length) (H ++ [AObj.var (row3 0 0 0)] ++ [AObj.var [.str s,.bool false]]) Q
 have hne : H.length ≠ (H ++ [AObj.var (row3 0 0 0)]).length := by omega
 generalize updC (updC (fun _ => none) H.length (.var (row3 0 0 0))) (H ++ [AObj.var (row3 0 0 0)]).length (.var [.str s,.bool false]) = C2 at k2 c4 cp
 generalize (H ++ [AObj.var (row3 0 0 0)]).length = p at cp h1 hne ⊢
 generalize H ++ [AObj.var (row3 0 0 0)] ++ [AObj.var [.str s,.bool false]] = G2 at k2 ⊢
 refine J23_22_in (f55_ok (st := (s,false)) (most := 10) k2 ⟨cp,Nat.le_of_lt h1⟩ (by decide) fun G3 C3 a3 e3 r3 l3 => int_i ?_)
 rw [show layParts [(.int .i64 0),(.int .i64 0),(.int .i64 0),.nils,.nils,.nils,.nils,.nils,.nils] [(0,1,.int .i64 ((numQ 10 (s,false)).1 : Int))] = some (row3 ((numQ 10 (s,false)).1 : Int) 0 0) from rfl,ob_some]
 refine op_alloc (op_st_last rfl rfl ?_)
 have hn7 : C3 G3.length = none := by
  cases h : C3 G3.length with
  | none => rfl
  | some o => have := a3.lt h; omega
 have hp3 := a3.lt r3.1
 have hS : SayT H (G3 ++ [.var (row3 ((numQ 10 (s,false)).1 : Int) 0 0)]) (updC C3 G3.length (.var (row3 ((numQ 10 (s,false)).1 : Int) 0 0))) C3 H.length p G3.length (row3 ((numQ 10 (s,false)).1 : Int) 0 0) (numQ 10 (s,false)).2 :=
  ⟨a3.add _,fun q o _ hq => keeps_add a3 q o hq,hn7,e3 _ _ hne c4,updC_at,r3.keep fun o => keeps_add a3 p o,Nat.le_refl _,a3.le,hne,by omega⟩
 refine J23_21_in (op_fldP ?_)
 rw [peekV (hS.kw.cs _ _ hS.c7) (v := .int .i64 ((numQ 10 (s,false)).1 : Int)) rfl,ob_some,pInt_int]
 refine ib_eq (J23_17_in ?_)
 rw [pBool_bool]
 have hs2 := (numQ_le 10 (s,false)).2
 split
 ·rename_i h0
  have h0 : (numQ 10 (s,false)).1 = 0 := by have := of_decide_eq_true h0; omega
  rw [h0] at hS ⊢
  exact rsay_main hS (Nat.le_trans hs2 hs) (by unfold sayOfQ; rw [if_pos h0]) hs hq
 ·rename_i h0
  have h0 : ¬ (numQ 10 (s,false)).1 = 0 := fun e => h0 (decide_eq_true (by omega))
  exact rsay_end hS (rp3_m slF_nil) (by unfold sayOfQ; rw [if_neg h0]) hs hq
end
end Go.Am
namespace Go.Am
open Go
def Eqv (a b : RS) : Prop := a.2 = b.2 ∧ (a.2 = false → a = b)
def SimR {α : Type} (P Q : RS → α × RS) : Prop := ∀ a b,Eqv a b → Eqv (P a).2 (Q b).2 ∧ ((P a).2.2 = false → (P a).1 = (Q b).1 ∧ a.2 = false)
theorem Eqv.refl {a : RS} : Eqv a a := ⟨rfl,fun _ => rfl⟩
theorem Eqv.wrong {a b : RS} (h1 : a.2 = true) (h2 : b.2 = true) : Eqv a b := ⟨by rw [h1,h2],fun h => by rw [h1] at h; cases h⟩
theorem eqv_cases {a b : RS} (h : Eqv a b) : (a.2 = true ∧ b.2 = true) ∨ (a.2 = false ∧ a = b) := by
 cases e : a.2 with
 | true => exact .inl ⟨rfl,by rw [← h.1,e]⟩
 | false => exact .inr ⟨rfl,h.2 e⟩
theorem num_same (m : Nat) {a b : RS} (h : Eqv a b) : (numP m a).1 = (numQ m b).1 ∧ Eqv (numP m a).2 (numQ m b).2 ∧ ((numP m a).2.2 = false → a.2 = false) := by
 obtain ⟨e1,e2⟩ | ⟨e1,rfl⟩ := eqv_cases h
 ·have hp : numP m a = (0,([],true)) := by simp [numP,takesF,e1]
  have hq : numQ m b = (0,(b.1,true)) := by simp [numQ,e2]
  rw [hp,hq]
  exact ⟨rfl,.wrong rfl rfl,fun h => by cases h⟩
 ·cases ho : ((getF a.1).2.2 && decide ((getF a.1).1 ≤ (m : Int))) with
  | false =>
   have hp : numP m a = (0,([],true)) := by simp [numP,takesF,ho]
   have hq : numQ m a = (0,(a.1,true)) := by simp [numQ,ho]
   rw [hp,hq]
   exact ⟨rfl,.wrong rfl rfl,fun h => by cases h⟩
  | true =>
   have hp : numP m a = ((getF a.1).1.toNat,(a.1.drop (getF a.1).2.1,false)) := by simp [numP,takesF,ho,e1]
   have hq : numQ m a = ((getF a.1).1.toNat,(a.1.drop (getF a.1).2.1,false)) := by simp [numQ,ho,e1]
   rw [hp,hq]
   exact ⟨rfl,.refl,fun _ => e1⟩
theorem text_sim : SimR textP textQ := fun a b h => by
 obtain ⟨e1,e2⟩ | ⟨e1,rfl⟩ := eqv_cases h
 ·have hp : textP a = ([],([],true)) := by simp [textP,takesF,e1]
  have hq : textQ b = ([],(b.1,true)) := by simp [textQ,e2]
  rw [hp,hq]
  exact ⟨.wrong rfl rfl,fun h => by cases h⟩
 ·cases ho : (textF a.1).2.2 with
  | false =>
   have hp : textP a = ([],([],true)) := by simp [textP,takesF,ho]
   have hq : textQ a = ([],(a.1,true)) := by simp [textQ,ho]
   rw [hp,hq]
   exact ⟨.wrong rfl rfl,fun h => by cases h⟩
  | true =>
   have hp : textP a = ((textF a.1).1,(a.1.drop (textF a.1).2.1,false)) := by simp [textP,takesF,ho,e1]
   have hq : textQ a = ((textF a.1).1,(a.1.drop (textF a.1).2.1,false)) := by simp [textQ,ho,e1]
   rw [hp,hq]
   exact ⟨.refl,fun _ => ⟨rfl,e1⟩⟩
theorem dig_sim : SimR digP digQ := fun a b h => by
 have mn : ((min a.1.length 32 : Nat) : Int) = 32 ↔ ¬ a.1.length < 32 := by omega
 obtain ⟨e1,e2⟩ | ⟨e1,rfl⟩ := eqv_cases h
 ·have hp : (digP a).2 = ([],true) := by simp [digP,takesF,e1]
  have hq : (digQ b).2 = (b.1,true) := by simp [digQ,e2]
  rw [hp,hq]
  exact ⟨.wrong rfl rfl,fun h => by cases h⟩
 ·by_cases ho : a.1.length < 32
  ·have hp : (digP a).2 = ([],true) := by
    unfold digP takesF
    rw [if_pos (by rw [decide_eq_false (fun e => (mn.1 e) ho)]; simp)]
   have hq : (digQ a).2 = (a.1,true) := by simp [digQ,ho]
   rw [hp,hq]
   exact ⟨.wrong rfl rfl,fun h => by cases h⟩
  ·have hm : min a.1.length 32 = 32 := by omega
   have hp : digP a = (a.1.take 32,(a.1.drop 32,false)) := by
    unfold digP takesF
    rw [hm,if_neg (by rw [e1]; decide)]
    simp
   have hq : digQ a = (a.1.take 32,(a.1.drop 32,false)) := by simp [digQ,e1,ho]
   rw [hp,hq]
   exact ⟨.refl,fun _ => ⟨rfl,e1⟩⟩
theorem list_sim {α : Type} {P Q : RS → α × RS} (hs : SimR P Q) (m : Nat) : SimR (listP P m) (listQ Q m) := by
 have go : ∀ (k : Nat) (acc acc' : List α) (a b : RS),Eqv a b → (a.2 = false → acc = acc') → Eqv (listGo P k acc a).2 (goQ Q k acc' b).2 ∧ ((listGo P k acc a).2.2 = false → (listGo P k acc a).1 = (goQ Q k acc' b).1 ∧ a.2 = false) := by
  intro k
  induction k with
  | zero => exact fun acc acc' a b h ha => ⟨h,fun hw => ⟨ha hw,hw⟩⟩
  | succ k ih =>
   intro acc acc' a b h ha
   simp only [listGo,goQ]
   obtain ⟨e1,e2⟩ | ⟨e1,rfl⟩ := eqv_cases h
   ·rw [if_pos e1,if_pos e2]
    exact ⟨.wrong e1 e2,fun hw => by rw [e1] at hw; cases hw⟩
   ·rw [if_neg (by rw [e1]; decide),if_neg (by rw [e1]; decide)]
    obtain ⟨h1,h2⟩ := hs a a h
    obtain ⟨h3,h4⟩ := ih (acc ++ [(P a).1]) (acc' ++ [(Q a).1]) _ _ h1 fun hw => by rw [ha e1,(h2 hw).1]
    exact ⟨h3,fun hw => ⟨(h4 hw).1,e1⟩⟩
 intro a b h
 obtain ⟨n1,n2,n3⟩ := num_same m h
 unfold listP listQ
 rw [n1]
 obtain ⟨g1,g2⟩ := go (numQ m b).1 [] [] _ _ n2 fun _ => rfl
 exact ⟨g1,fun hw => ⟨(g2 hw).1,n3 (g2 hw).2⟩⟩
theorem ents_sim (m : Nat) : SimR (listP entP m) (entsQ m) := by
 have go : ∀ (k : Nat) (acc acc' : List Ent) (a b : RS),Eqv a b → (a.2 = false → acc = acc') → Eqv (listGo entP k acc a).2 (goE k acc' b).2 ∧ ((listGo entP k acc a).2.2 = false → (listGo entP k acc a).1 = (goE k acc' b).1 ∧ a.2 = false) := by
  intro k
  induction k with
  | zero => exact fun acc acc' a b h ha => ⟨h,fun hw => ⟨ha hw,hw⟩⟩
  | succ k ih =>
   intro acc acc' a b h ha
   simp only [listGo,goE]
   obtain ⟨e1,e2⟩ | ⟨e1,rfl⟩ := eqv_cases h
   ·rw [if_pos e1,if_pos e2]
    exact ⟨.wrong e1 e2,fun hw => by rw [e1] at hw; cases hw⟩
   ·rw [if_neg (by rw [e1]; decide),if_neg (by rw [e1]; decide)]
    by_cases h0 : (parseF a.1).2.2 = 0
    ·have hp : entP a = ((parseF a.1).1,(a.1.drop (parseF a.1).2.1,false)) := by simp [entP,takesF,h0,e1]
     rw [if_pos h0,hp]
     obtain ⟨h3,h4⟩ := ih (acc ++ [(parseF a.1).1]) (acc' ++ [(parseF a.1).1]) _ _ (.refl (a := (a.1.drop (parseF a.1).2.1,false))) fun _ => by rw [ha e1]
     exact ⟨h3,fun hw => ⟨(h4 hw).1,e1⟩⟩
    ·have hp : entP a = ((parseF a.1).1,([],true)) := by simp [entP,takesF,h0]
     rw [if_neg h0,hp]
     have hw : (listGo entP k (acc ++ [(parseF a.1).1]) ([],true)).2.2 = true := by
      cases k with
      | zero => rfl
      | succ k => simp [listGo]
     exact ⟨.wrong hw rfl,fun h => by rw [hw] at h; cases h⟩
 intro a b h
 obtain ⟨n1,n2,n3⟩ := num_same m h
 unfold listP entsQ
 rw [n1]
 obtain ⟨g1,g2⟩ := go (numQ m b).1 [] [] _ _ n2 fun _ => rfl
 exact ⟨g1,fun hw => ⟨(g2 hw).1,n3 (g2 hw).2⟩⟩
theorem path_sim : SimR pathP pathQ := list_sim dig_sim 64
theorem row_sim : SimR rowP rowQ := ents_sim 64
theorem op_sim : SimR opP opQ := fun a b h => by
 obtain ⟨n1,n2,n3⟩ := num_same 1099511627776 h
 obtain ⟨t1,t2⟩ := text_sim _ _ n2
 obtain ⟨p1,p2⟩ := path_sim _ _ t1
 refine ⟨p1,fun hw => ?_⟩
 obtain ⟨a1,a2⟩ := p2 hw
 obtain ⟨b1,b2⟩ := t2 a2
 exact ⟨by simp only [opP,opQ]; rw [n1,b1,a1],n3 b2⟩
theorem pt_sim : SimR ptP ptQ := fun a b h => by
 obtain ⟨n1,n2,n3⟩ := num_same 1 h
 obtain ⟨t1,t2⟩ := op_sim _ _ n2
 obtain ⟨p1,p2⟩ := op_sim _ _ t1
 unfold ptP ptQ
 by_cases h1 : (numQ 1 b).1 = 1
 ·rw [if_pos (by rw [n1]; exact h1),if_pos h1]
  refine ⟨p1,fun hw => ?_⟩
  obtain ⟨a1,a2⟩ := p2 hw
  obtain ⟨b1,b2⟩ := t2 a2
  exact ⟨by show Pnt.mk true (opP (numP 1 a).2).1 (opP (opP (numP 1 a).2).2).1 = _; rw [b1,a1],n3 b2⟩
 ·rw [if_neg (by rw [n1]; exact h1),if_neg h1]
  refine ⟨t1,fun hw => ?_⟩
  obtain ⟨b1,b2⟩ := t2 hw
  exact ⟨by show Pnt.mk false (opP (numP 1 a).2).1 ⟨0,[],[]⟩ = _; rw [b1],n3 b2⟩
theorem sp_sim : SimR spP spQ := fun a b h => by
 obtain ⟨n1,n2,n3⟩ := num_same 1099511627776 h
 obtain ⟨t1,t2⟩ := list_sim text_sim 64 _ _ n2
 obtain ⟨p1,p2⟩ := path_sim _ _ t1
 refine ⟨p1,fun hw => ?_⟩
 obtain ⟨a1,a2⟩ := p2 hw
 obtain ⟨b1,b2⟩ := t2 a2
 exact ⟨by simp only [spP,spQ]; rw [n1,b1,a1],n3 b2⟩
theorem body_sim (k : Int) : SimR (bodyP k) (bodyQ k) := fun a b h => by
 obtain ⟨n1,n2,n3⟩ := num_same 1099511627776 h
 obtain ⟨t1,t2⟩ := text_sim _ _ h
 obtain ⟨u1,u2⟩ := text_sim _ _ n2
 unfold bodyP bodyQ
 split
 ·exact ⟨n2,fun hw => ⟨by show rp3 0 _ 0 = _; rw [n1],n3 hw⟩⟩
 split
 ·obtain ⟨p1,p2⟩ := list_sim pt_sim 512 _ _ t1
  refine ⟨p1,fun hw => ?_⟩
  obtain ⟨a1,a2⟩ := p2 hw
  obtain ⟨b1,b2⟩ := t2 a2
  exact ⟨by show rq2 _ _ = _; rw [b1,a1],b2⟩
 split
 ·obtain ⟨p1,p2⟩ := list_sim sp_sim 512 _ _ t1
  refine ⟨p1,fun hw => ?_⟩
  obtain ⟨a1,a2⟩ := p2 hw
  obtain ⟨b1,b2⟩ := t2 a2
  exact ⟨by show rq3 _ _ = _; rw [b1,a1],b2⟩
 split
 ·refine ⟨u1,fun hw => ?_⟩
  obtain ⟨b1,b2⟩ := u2 hw
  exact ⟨by show rq5 _ _ _ = _; rw [n1,b1],n3 b2⟩
 split
 ·obtain ⟨p1,p2⟩ := list_sim row_sim 512 _ _ u1
  refine ⟨p1,fun hw => ?_⟩
  obtain ⟨a1,a2⟩ := p2 hw
  obtain ⟨b1,b2⟩ := u2 a2
  exact ⟨by show rq5 _ _ _ = _; rw [n1,b1,a1],n3 b2⟩
 split
 ·obtain ⟨m1,m2,m3⟩ := num_same 1099511627776 n2
  exact ⟨m2,fun hw => ⟨by show rp3 0 _ _ = _; rw [n1,m1],n3 (m3 hw)⟩⟩
 ·exact ⟨h,fun hw => ⟨rfl,hw⟩⟩
theorem sayOf_sim (k : Int) (s : List UInt8) : Eqv (sayOfP k s).2 (sayOfQ k s).2 ∧ ((sayOfP k s).2.2 = false → (sayOfP k s).1 = (sayOfQ k s).1) := by
 obtain ⟨n1,n2,n3⟩ := num_same 10 (.refl (a := (s,false)))
 unfold sayOfP sayOfQ
 rw [n1]
 split
 ·obtain ⟨b1,b2⟩ := body_sim k _ _ n2
  exact ⟨b1,fun hw => (b2 hw).1⟩
 ·exact ⟨n2,fun _ => rfl⟩
theorem ask_sim (k : Int) : SimR (askP k) (askQ k) := fun a b h => by
 obtain ⟨n1,n2,n3⟩ := num_same 1099511627776 h
 obtain ⟨t1,t2⟩ := text_sim _ _ h
 obtain ⟨u1,u2⟩ := text_sim _ _ t1
 unfold askP askQ
 split
 ·obtain ⟨p1,p2⟩ := ents_sim 32 _ _ h
  exact ⟨p1,fun hw => ⟨by show Rq.mk _ _ _ _ _ _ = _; rw [(p2 hw).1],(p2 hw).2⟩⟩
 split
 ·exact ⟨t1,fun hw => ⟨by show Rq.mk _ _ _ _ _ _ = _; rw [(t2 hw).1],(t2 hw).2⟩⟩
 split
 ·refine ⟨u1,fun hw => ?_⟩
  obtain ⟨a1,a2⟩ := u2 hw
  obtain ⟨b1,b2⟩ := t2 a2
  exact ⟨by show Rq.mk _ _ _ _ _ _ = _; rw [b1,a1],b2⟩
 split
 ·exact ⟨n2,fun hw => ⟨by show Rq.mk _ _ _ _ _ _ = _; rw [n1],n3 hw⟩⟩
 ·exact ⟨h,fun hw => ⟨rfl,hw⟩⟩
theorem askOf_sim (s : List UInt8) : Eqv (askOfP s).2 (askOfQ s).2 ∧ ((askOfP s).2.2 = false → (askOfP s).1 = (askOfQ s).1) := by
 cases s with
 | nil => exact ⟨.refl,fun _ => rfl⟩
 | cons c0 r =>
  obtain ⟨b1,b2⟩ := ask_sim (c0.toNat : Int) _ _ (.refl (a := (r,false)))
  exact ⟨b1,fun hw => (b2 hw).1⟩
theorem ask_good (s : List UInt8) : refGood s = askGood s ∧ (askGood s = true → (askOfP s).1 = (askOfQ s).1) := by
 obtain ⟨h1,h2⟩ := askOf_sim s
 unfold refGood askGood
 rw [← h1.1]
 cases hw : (askOfP s).2.2 with
 | true => exact ⟨rfl,fun h => by cases h⟩
 | false => rw [h2 hw]; exact ⟨rfl,fun _ => rfl⟩
theorem say_good (k : Int) (s : List UInt8) : tellGood k s = sayGood k s ∧ (sayGood k s = true → (sayOfP k s).1 = (sayOfQ k s).1) := by
 obtain ⟨h1,h2⟩ := sayOf_sim k s
 unfold tellGood sayGood
 rw [← h1.1]
 cases hw : (sayOfP k s).2.2 with
 | true => exact ⟨rfl,fun h => by cases h⟩
 | false => rw [h2 hw]; exact ⟨rfl,fun _ => rfl⟩
end Go.Am
namespace Go.Am
open Go
def askV (s : List UInt8) : Rq × Int := if askGood s = true then ((askOfP s).1,0) else (⟨0,[],[],[],[],0⟩,2)
def sayV (k : Int) (s : List UInt8) : Rpl × Int := if sayGood k s = true then ((sayOfP k s).1,0) else (rp3 0 0 0,2)
theorem askV_ok {s : List UInt8} (h : s.length ≤ 1000000) : RqOk (askV s).1 := by
 unfold askV
 split
 ·exact askOfP_ok h
 ·exact ⟨by decide,Nat.zero_le _,Nat.zero_le _,Nat.zero_le _,Nat.zero_le _⟩
theorem sayV_ok {k : Int} {s : List UInt8} (h : s.length ≤ 1000000) : RpOk (sayV k s).1 := by
 unfold sayV
 split
 ·exact sayOfP_ok h
 ·exact rp3_ok' (by decide) (by decide) (by decide)
theorem sameRq_self (r : Rq) : sameRq r r = true := by simp [sameRq]
def AsR (B : Base) (G : Heap) (q : Nat) (r : Rq) : Prop := ∃ ev,G[q]? = some (.var (r.row ev)) ∧ Sl B G 4 ev (r.ents.map Ent.row)
def SaR (B : Base) (G : Heap) (q : Nat) (r : Rpl) : Prop := ∃ c,G[q]? = some (.var c) ∧ RpR B G c r
section
variable {B : Base} {n : Nat} {H G L : Heap} {Q : AV → Heap → Prop}
theorem AsR.pre {q : Nat} {r : Rq} (h : AsR B G q r) : AsR B (G ++ L) q r := by
 obtain ⟨ev,h1,h2⟩ := h
 exact ⟨ev,get_pre h1,h2.pre⟩
theorem SaR.pre {q : Nat} {r : Rpl} (h : SaR B G q r) : SaR B (G ++ L) q r := by
 obtain ⟨ev,h1,h2⟩ := h
 exact ⟨ev,get_pre h1,h2.pre'⟩
theorem as_put {r : Rq} {e : Int} {ev : AV} {L0 : List AObj} {K : AV → AV → Heap → Prop} (hev : Sl B (G ++ L0) 4 ev (r.ents.map Ent.row)) (hk : ∀ q L,AsR B (G ++ L) q r → K (wp q) (.int .i64 e) (G ++ L)) :
  pLive (.tuple [.agg (r.row ev),.int .i64 e]) fun v13 => (aop B E0 (G ++ L0) (fun v14 _ => (aop B E0 (G ++ L0) (fun v15 _ => (aop B E0 (G ++ L0) (fun v16 H17 => (aop B E0 H17 (fun v18 H19 => K v16 v15 H19) (.st 6 (.const (v16)) (.const (v14))))) (.alloc [(.int .i64 0),.nils,(.str []),(.str []),(.str []),(.int .i64 0)]))) (.extract (some (.int .i64)) 1 (.const (v13))))) (.extract none 0 (.const (v13)))) := by
 refine live_tuple (op_extA rfl (op_extI rfl (op_alloc (op_st_last rfl rfl ?_))))
 have := hk (G ++ L0).length (L0 ++ [.var (r.row ev)]) ⟨ev,by rw [← List.append_assoc,get_app0]; rfl,by rw [← List.append_assoc]; exact hev.pre⟩
 rw [← List.append_assoc] at this
 exact this
theorem as20 {b : AV} {s : List UInt8} (hb : Bs B G b s) (hcap : capOK b) (hs : s.length ≤ 1000000) {K : AV → AV → Heap → Prop} (hk : ∀ q L,AsR B (G ++ L) q (askV s).1 → K (wp q) (.int .i64 (askV s).2) (G ++ L)) :
  Cl B 20 [b] G fun v11 H12 => pLive v11 fun v13 => (aop B E0 H12 (fun v14 _ => (aop B E0 H12 (fun v15 _ => (aop B E0 H12 (fun v16 H17 => (aop B E0 H17 (fun v18 H19 => K v16 v15 H19) (.st 6 (.const (v16)) (.const (v14))))) (.alloc [(.int .i64 0),.nils,(.str []),(.str []),(.str []),(.int .i64 0)]))) (.extract (some (.int .i64)) 1 (.const (v13))))) (.extract none 0 (.const (v13)))) := by
 refine f20_ok hb hcap hs ⟨fun hg L => ?_,fun hg ev L hev => ?_⟩
 ·have e : askV s = (⟨0,[],[],[],[],0⟩,2) := by unfold askV; rw [if_neg (by rw [hg]; decide)]
  rw [e] at hk
  exact as_put (r := ⟨0,[],[],[],[],0⟩) (ev := .nils) sl_nil hk
 ·have e : askV s = ((askOfP s).1,0) := by unfold askV; rw [if_pos hg]
  rw [e] at hk
  exact as_put hev hk
theorem as21 {s : List UInt8} (hs : s.length ≤ 1000000) {K : AV → AV → Heap → Prop} (hk : ∀ q L,AsR B (G ++ L) q (askV s).1 → K (wp q) (.int .i64 (askV s).2) (G ++ L)) :
  Cl B 21 [.str s] G fun v11 H12 => pLive v11 fun v13 => (aop B E0 H12 (fun v14 _ => (aop B E0 H12 (fun v15 _ => (aop B E0 H12 (fun v16 H17 => (aop B E0 H17 (fun v18 H19 => K v16 v15 H19) (.st 6 (.const (v16)) (.const (v14))))) (.alloc [(.int .i64 0),.nils,(.str []),(.str []),(.str []),(.int .i64 0)]))) (.extract (some (.int .i64)) 1 (.const (v13))))) (.extract none 0 (.const (v13)))) := by
 obtain ⟨g1,g2⟩ := ask_good s
 refine f21_ok hs ⟨fun hg L => ?_,fun hg ev L hev => ?_⟩
 ·rw [g1] at hg
  have e : askV s = (⟨0,[],[],[],[],0⟩,2) := by unfold askV; rw [if_neg (by rw [hg]; decide)]
  rw [e] at hk
  exact as_put (r := ⟨0,[],[],[],[],0⟩) (ev := .nils) sl_nil hk
 ·rw [g1] at hg
  have e : askV s = ((askOfQ s).1,0) := by unfold askV; rw [if_pos hg,g2 hg]
  rw [e] at hk
  exact as_put hev hk
theorem sa_put {r : Rpl} {e : Int} {c : List AV} {L0 : List AObj} {K : AV → AV → Heap → Prop} (hr : RpR B (G ++ L0) c r) (hk : ∀ q L,SaR B (G ++ L) q r → K (wp q) (.int .i64 e) (G ++ L)) :
  pLive (.tuple [.agg c,.int .i64 e]) fun v31 => (aop B E0 (G ++ L0) (fun v32 _ => (aop B E0 (G ++ L0) (fun v33 _ => (aop B E0 (G ++ L0) (fun v34 H35 => (aop B E0 H35 (fun v36 H37 => K v34 v33 H37) (.st 9 (.const (v34)) (.const (v32))))) (.alloc [(.int .i64 0),(.int .i64 0),(.int .i64 0),.nils,.nils,.nils,.nils,.nils,.nils]))) (.extract (some (.int .i64)) 1 (.const (v31))))) (.extract none 0 (.const (v31)))) := by
 refine live_tuple (op_extA rfl (op_extI rfl (op_alloc (op_st_last rfl hr.nine ?_))))
 have := hk (G ++ L0).length (L0 ++ [.var c]) ⟨c,by rw [← List.append_assoc,get_app0]; rfl,by rw [← List.append_assoc]; exact hr.pre'⟩
 rw [← List.append_assoc] at this
 exact this
theorem sa22 {kind : Int} {b : AV} {s : List UInt8} (hb : Bs B G b s) (hcap : capOK b) (hs : s.length ≤ 1000000) {K : AV → AV → Heap → Prop} (hk : ∀ q L,SaR B (G ++ L) q (sayV kind s).1 → K (wp q) (.int .i64 (sayV kind s).2) (G ++ L)) :
  Cl B 22 [.int .i64 kind,b] G fun v29 H30 => pLive v29 fun v31 => (aop B E0 H30 (fun v32 _ => (aop B E0 H30 (fun v33 _ => (aop B E0 H30 (fun v34 H35 => (aop B E0 H35 (fun v36 H37 => K v34 v33 H37) (.st 9 (.const (v34)) (.const (v32))))) (.alloc [(.int .i64 0),(.int .i64 0),(.int .i64 0),.nils,.nils,.nils,.nils,.nils,.nils]))) (.extract (some (.int .i64)) 1 (.const (v31))))) (.extract none 0 (.const (v31)))) := by
 refine f22_ok hb hcap hs ⟨fun hg L => ?_,fun hg c L hr => ?_⟩
 ·have e : sayV kind s = (rp3 0 0 0,2) := by unfold sayV; rw [if_neg (by rw [hg]; decide)]
  rw [e] at hk
  exact sa_put rp3_r hk
 ·have e : sayV kind s = ((sayOfP kind s).1,0) := by unfold sayV; rw [if_pos hg]
  rw [e] at hk
  exact sa_put hr hk
theorem sa23 {kind : Int} {s : List UInt8} (hs : s.length ≤ 1000000) {K : AV → AV → Heap → Prop} (hk : ∀ q L,SaR B (G ++ L) q (sayV kind s).1 → K (wp q) (.int .i64 (sayV kind s).2) (G ++ L)) :
  Cl B 23 [.int .i64 kind,.str s] G fun v29 H30 => pLive v29 fun v31 => (aop B E0 H30 (fun v32 _ => (aop B E0 H30 (fun v33 _ => (aop B E0 H30 (fun v34 H35 => (aop B E0 H35 (fun v36 H37 => K v34 v33 H37) (.st 9 (.const (v34)) (.const (v32))))) (.alloc [(.int .i64 0),(.int .i64 0),(.int .i64 0),.nils,.nils,.nils,.nils,.nils,.nils]))) (.extract (some (.int .i64)) 1 (.const (v31))))) (.extract none 0 (.const (v31)))) := by
 obtain ⟨g1,g2⟩ := say_good kind s
 refine f23_ok hs ⟨fun hg L => ?_,fun hg c L hr => ?_⟩
 ·rw [g1] at hg
  have e : sayV kind s = (rp3 0 0 0,2) := by unfold sayV; rw [if_neg (by rw [hg]; decide)]
  rw [e] at hk
  exact sa_put rp3_r hk
 ·rw [g1] at hg
  have e : sayV kind s = ((sayOfQ kind s).1,0) := by unfold sayV; rw [if_pos hg,g2 hg]
  rw [e] at hk
  exact sa_put hr hk
theorem reads_end {b o : AV} {s : List UInt8} {q1 q2 q3 q4 : Nat} {r : Rq} {y : Rpl} {e1 e2 : Int} (hb : Bs B G b s) (hob : Bs B G o s) (h1 : AsR B G q1 r) (h2 : AsR B G q2 r) (h3 : SaR B G q3 y) (h4 : SaR B G q4 y) (hr : RqOk r) (hy : RpOk y) (hq : ∀ G,Q (.bool true) G) :
  J7_2 B (Cl B) n b (.bool true) o (wp q1) (.int .i64 e1) (wp q2) (.int .i64 e1) (wp q3) (.int .i64 e2) (wp q4) (.int .i64 e2) G Q := by
 obtain ⟨ev1,a1,a2⟩ := h1
 obtain ⟨ev2,a3,a4⟩ := h2
 obtain ⟨c1,a5,a6⟩ := h3
 obtain ⟨c2,a7,a8⟩ := h4
 refine J7_2_in ?_
 rw [show peekN B G 6 (wp q1) = some (r.row ev1) from peekVN a1 rfl,ob_some,show peekN B G 6 (wp q2) = some (r.row ev2) from peekVN a3 rfl,ob_some]
 refine f15_ok a2 a4 (Nat.le_trans hr.2.1 (by decide)) (tyK_bool (J7_1_in ?_))
 rw [show peekN B G 9 (wp q3) = some c1 from peekVN a5 a6.nine,ob_some,show peekN B G 9 (wp q4) = some c2 from peekVN a7 a8.nine,ob_some]
 refine f19_ok a6 a8 hy hy (tyK_bool (J7_0_in ?_))
 rw [sameRq_self,decide_eq_true rfl]
 simp only [pGuard_bool,bs_true,pInt_int]
 refine bs_yes (by simp) (bs_yes (by simp) (op_toStr hob (op_toStr hb ?_)))
 rw [pStr_str,pStr_str]
 have : ∀ K : AV → Prop,K (.bool (s == s)) → sbinK .eql s s K := fun K h => by
  show bs (s == s) (K (.bool true)) (K (.bool false))
  rw [beq_self_eq_true] at h ⊢
  exact h
 refine this _ (tidy_none ?_)
 rw [beq_self_eq_true]
 exact hq G
theorem f7_ok {kind : Int} {b : AV} {s : List UInt8} (hb : Bs B H b s) (hbc : capOK b) (hq : ∀ G,Q (.bool true) G) : Cl B 7 [.int .i64 kind,b] H Q := by
 refine f7_in fun n cl hn hcl hH hA => J7_9_in ?_
 subst hcl
 refine f11_ok (tyK_bool (J7_8_in ?_))
 obtain ⟨u,s1,s2,s3⟩ := bs_take hb hbc 4000
 rw [hb.len,ob_some]
 refine op_sl1 hb.len s1 ?_
 have hut : (s.take 4000).length ≤ 4000 := by rw [List.length_take]; omega
 generalize s.take 4000 = w at s2 hut
 have hw : w.length ≤ 1000000 := by omega
 refine J7_7_in ?_
 rw [show layParts [] [] = some [] from rfl,ob_some]
 refine slK_in ?_
 refine op_appB app_zero s2.pre (by simp; omega) fun v1 L1 a1 => ?_
 rw [List.nil_append] at a1
 have o1 : Bs B (H ++ L1) v1 w := a1.sl
 refine J7_6_in (as20 o1 a1.cap hw fun q1 L2 r1 => ?_)
 have o2 := o1.pre (L := L2)
 have b2 : Bs B (H ++ L1 ++ L2) u w := s2.pre.pre
 generalize H ++ L1 ++ L2 = G2 at r1 o2 b2 ⊢
 refine J7_5_in (op_toStr b2 (as21 hw fun q2 L3 r2 => ?_))
 have r1 := r1.pre (L := L3)
 have o3 := o2.pre (L := L3)
 have b3 := b2.pre (L := L3)
 generalize G2 ++ L3 = G3 at r1 r2 o3 b3 ⊢
 refine J7_4_in (sa22 o3 a1.cap hw fun q3 L4 r3 => ?_)
 have r1 := r1.pre (L := L4)
 have r2 := r2.pre (L := L4)
 have o4 := o3.pre (L := L4)
 have b4 := b3.pre (L := L4)
 generalize G3 ++ L4 = G4 at r1 r2 r3 o4 b4 ⊢
 refine J7_3_in (op_toStr b4 (sa23 hw fun q4 L5 r4 => ?_))
 exact reads_end b4.pre o4.pre r1.pre r2.pre r3.pre r4 (askV_ok hw) (sayV_ok hw) hq
end
end Go.Am
namespace Go.Am
open Go Go.Proofs
theorem byte_of {u : AV} (h : avIs (.int .u8) u) : ∃ c : UInt8,u = .int .u8 (c.toNat : Int) := by
 obtain ⟨m,rfl,hw⟩ := h
 have : IntKind.u8.min ≤ m ∧ m ≤ IntKind.u8.max := by simpa [Lit.wf] using hw
 have e1 : IntKind.u8.max = 255 := by decide
 have e2 : IntKind.u8.min = 0 := by decide
 refine ⟨UInt8.ofNat m.toNat,?_⟩
 rw [UInt8.toNat_ofNat_of_lt' (by show _ < 256; omega)]
 congr 1; omega
theorem bytes_of_rows : ∀ {rows : List (List AV)},(∀ r,r ∈ rows → rowIs [.int .u8] r) → ∃ s : List UInt8,rows = s.map brw
 | [],_ => ⟨[],rfl⟩
 | r :: rs,h => by
  obtain ⟨s,hs⟩ := bytes_of_rows (rows := rs) fun x hx => h x (List.mem_cons_of_mem _ hx)
  obtain ⟨hlen,hg⟩ := h r (List.mem_cons_self ..)
  obtain ⟨u,g0,hu⟩ := hg 0 (.int .u8) rfl
  obtain ⟨c,rfl⟩ := byte_of hu
  match r,hlen,g0 with
  | [a],_,g0 =>
   simp at g0
   subst g0
   exact ⟨c :: s,by rw [hs]; rfl⟩
theorem kinds_byte : kinds Try.prog 6 5 = some [.int .u8] := by kernel_rfl
theorem cells_byte : Try.prog.cellsOf 5 = 1 := by kernel_rfl
theorem under_bytes : Try.prog.underlying 27 = some (.slice 5) := by kernel_rfl
section
variable {X : Type} {enc : TypeId × Value → X} {W : World} {base : Nat}
set_option maxRecDepth 100000 in
theorem arg_bytes {v : Value} {d : DataW X} {p : List MemPlace} (hval : Value.okWide Try.prog W .any base 27 v) (hd : DataW.Trod enc Try.prog W 0 (fun _ => true) true 27 v d p) :
  ∃ (av : AV) (s : List UInt8),VR 0 plc0 av v ∧ Bs (baseOf W) [] av s := by
 obtain ⟨av,rows,h1,h2,h3⟩ := arg_slice under_bytes kinds_byte cells_byte (Nat.one_pos) hval hd
 obtain ⟨s,hs⟩ := bytes_of_rows h3
 rw [hs] at h2
 exact ⟨av,s,h1,h2⟩
end
end Go.Am
