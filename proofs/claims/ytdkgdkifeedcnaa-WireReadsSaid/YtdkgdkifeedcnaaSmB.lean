/- The document's functions that compare: entries,requests,paths,openings,points,spans,replies. -/
import Derived.Test.YtdkgdkifeedcnaaRdB
namespace Go.Am
open Go
theorem cmp_go {α : Type} [DecidableEq α] {P : Nat → Prop} {R : Bool → Prop} {us ws : List α} (hl : us.length = ws.length)
  (step : ∀ i a b,us[i]? = some a → ws[i]? = some b → (a = b → P (i + 1)) → (a ≠ b → R false) → P i) (fin : R true → P us.length) (h : R (decide (us = ws))) : P 0 := by
 have go : ∀ (ra rb : List α) (i : Nat),us.drop i = ra → ws.drop i = rb → R (decide (ra = rb)) → i ≤ us.length → P i := fun ra => by
  induction ra with
  | nil =>
   intro rb i h1 h2 h3 hi
   have hi2 := drop_nil h1
   have : i = us.length := by omega
   subst this
   have : rb = [] := by rw [← h2]; exact List.drop_eq_nil_of_le (by omega)
   subst this
   exact fin (by simpa using h3)
  | cons a r ih =>
   intro rb i h1 h2 h3 hi
   obtain ⟨g1,lt1,d1⟩ := drop_cons h1
   obtain ⟨b,r2,rfl⟩ : ∃ b r2,rb = b :: r2 := by
    cases rb with
    | nil => have := drop_nil h2; omega
    | cons b r2 => exact ⟨b,r2,rfl⟩
   obtain ⟨g2,lt2,d2⟩ := drop_cons h2
   refine step i a b g1 g2 (fun hab => ih r2 (i + 1) d1 d2 ?_ (by omega)) fun hab => ?_
   ·subst hab; simpa using h3
   ·simpa [hab] using h3
 exact go us ws 0 rfl rfl h (Nat.zero_le _)
theorem dec_len {α : Type} [DecidableEq α] {us ws : List α} {R : Bool → Prop} (h : R (decide (us = ws))) (hl : us.length ≠ ws.length) : R false := by
 have : decide (us = ws) = false := decide_eq_false fun e => hl (by rw [e])
 rw [this] at h; exact h
theorem cmp_u8 {x y : List AV} : ∀ (m i : Nat) (a b : List UInt8),x = dg a → y = dg b → (∀ j,j < m → i + j < a.length ∧ i + j < b.length) → cellsEq ((List.range' i m).map fun j => (j,.int .u8)) x y = some (decide ((a.drop i).take m = (b.drop i).take m))
 | 0,i,a,b,hx,hy,h => by simp [cellsEq]
 | m + 1,i,a,b,hx,hy,h => by
  have h0 : i < a.length ∧ i < b.length := h 0 (by omega)
  have ga : a[i]? = some a[i] := List.getElem?_eq_getElem h0.1
  have gb : b[i]? = some b[i] := List.getElem?_eq_getElem h0.2
  have dgi : ∀ (l : List UInt8) (c : UInt8),l[i]? = some c → (dg l)[i]? = some (.int .u8 (c.toNat : Int)) := fun l c hc => by
   have e : dg l = l.map fun c => AV.int .u8 (c.toNat : Int) := by
    unfold dg
    clear hc
    induction l with
    | nil => rfl
    | cons z l ih => simp only [List.map_cons,List.flatten_cons,ih]; rfl
   rw [e,List.getElem?_map,hc]; rfl
  rw [List.range'_succ,List.map_cons,cellsEq,hx,hy,dgi a _ ga,dgi b _ gb]
  simp only [cellEq,if_true]
  have ih := cmp_u8 m (i + 1) a b hx hy fun j hj => by have := h (j + 1) (by omega); omega
  rw [hx,hy] at ih
  have da : (a.drop i).take (m + 1) = a[i] :: (a.drop (i + 1)).take m := by rw [List.drop_eq_getElem_cons h0.1,List.take_succ_cons]
  have db : (b.drop i).take (m + 1) = b[i] :: (b.drop (i + 1)).take m := by rw [List.drop_eq_getElem_cons h0.2,List.take_succ_cons]
  rw [da,db]
  by_cases hab : a[i] = b[i]
  ·rw [hab]
   simp only [beq_self_eq_true,ih,List.cons.injEq,true_and]
  ·have : ((a[i].toNat : Int) == (b[i].toNat : Int)) = false := by
    rw [beq_eq_false_iff_ne]
    intro e
    exact hab (UInt8.toNat_inj.1 (by omega))
   rw [this]
   simp [hab]
section
variable {B : Base} {n : Nat} {H G : Heap} {Q : AV → Heap → Prop}
theorem ent_eq (a b : Ent) : cellsEq [(0,.str),(1,.str),(2,.bool),(3,(.int .i64))] a.row b.row = some (decide (a = b)) := by
 obtain ⟨k1,v1,d1,s1⟩ := a
 obtain ⟨k2,v2,d2,s2⟩ := b
 simp only [cellsEq,Ent.row,List.getElem?_cons_zero,List.getElem?_cons_succ,cellEq,if_true]
 by_cases h1 : k1 = k2
 ·by_cases h2 : v1 = v2
  ·by_cases h3 : d1 = d2
   ·by_cases h4 : s1 = s2
    ·simp [h1,h2,h3,h4]
    ·simp [h1,h2,h3,h4,beq_eq_false_iff_ne.2 h4]
   ·simp [h1,h2,h3,beq_eq_false_iff_ne.2 h3]
  ·simp [h1,h2,beq_eq_false_iff_ne.2 h2]
 ·simp [h1,beq_eq_false_iff_ne.2 h1]
theorem f35_ok {us ws : List Ent} {x y : AV} (ha : Sl B H 4 x (us.map Ent.row)) (hb : Sl B H 4 y (ws.map Ent.row)) (hsz : us.length ≤ 1000000) (h : Q (.bool (decide (us = ws))) H) : Cl B 35 [x,y] H Q := by
 refine f35_in fun n cl hn hcl hH hA => ?_
 subst hcl
 have hla : lenOf x = some us.length := by have := ha.len; rwa [List.length_map] at this
 have hlb : lenOf y = some ws.length := by have := hb.len; rwa [List.length_map] at this
 rw [hla,ob_some,hlb,ob_some]
 by_cases hl : us.length = ws.length
 ·refine bs_no (by simp [hl]) ?_
  refine cmp_go (P := fun i => L35_0 B (Cl B) n x y (i : Int) H Q) (R := fun b => Q (.bool b) H) hl (fun i a b g1 g2 k1 k2 => ?_) (fun k => ?_) h
  ·have lt1 : i < us.length := by rcases Nat.lt_or_ge i us.length with h' | h'; exact h'; rw [List.getElem?_eq_none h'] at g1; cases g1
   have r1 : (us.map Ent.row)[i]? = some a.row := by simp [g1]
   have r2' : (ws.map Ent.row)[i]? = some b.row := by simp [g2]
   refine L35_0_in (ACall.cle B table) ?_
   rw [hla,ob_some]
   refine bs_yes (decide_eq_true (by omega)) (op_idx ha (by simpa using lt1) ?_)
   rw [(ha.el r1).peekN (n := 4) rfl,ob_some]
   refine op_idx hb (by rw [List.length_map]; omega) ?_
   rw [(hb.el r2').peekN (n := 4) rfl,ob_some]
   have ae : ∀ K : AV → Heap → Prop,K (.bool (!decide (a = b))) H → aop B E0 H K (.aeq true 4 [(0,.str),(1,.str),(2,.bool),(3,(.int .i64))] (.const (.agg a.row)) (.const (.agg b.row))) := fun K hK => by
    simp only [aop,opK,Opd.look,ob_some,ent_eq]
    rw [if_pos ⟨rfl,rfl⟩]
    exact bool_split (K := fun v => K v H) hK
   refine ae _ ?_
   rw [pBool_bool]
   by_cases hab : a = b
   ·rw [if_neg (by simp [hab]),w64 (n := (i : Int) + 1) (by omega)]
    exact k1 hab
   ·rw [if_pos (by simp [hab])]
    exact tidy_none (k2 hab)
  ·refine L35_0_in (ACall.cle B table) ?_
   rw [hla,ob_some]
   exact bs_no (decide_eq_false (by omega)) (J35_1_in (tidy_none k))
 ·exact bs_yes (by simp; omega) (tidy_none (dec_len (R := fun b => Q (.bool b) H) h hl))
def sameRq (a b : Rq) : Bool := decide (a.ents = b.ents) && (a.kind == b.kind && (a.key == b.key && (a.lo == b.lo && (a.hi == b.hi && a.epoch == b.epoch))))
theorem f15_ok {a b : Rq} {x y : AV} (ha : Sl B H 4 x (a.ents.map Ent.row)) (hb : Sl B H 4 y (b.ents.map Ent.row)) (hsz : a.ents.length ≤ 1000000) (h : Q (.bool (sameRq a b)) H) : Cl B 15 [.agg (a.row x),.agg (b.row y)] H Q := by
 refine f15_in fun n cl hn hcl hH hA => op_box rfl rfl (op_box rfl rfl (J15_1_in ?_))
 subst hcl
 generalize hG : H ++ [AObj.var (a.row x)] ++ [AObj.var (b.row y)] = G
 have e1 : (H ++ [AObj.var (a.row x)]).length = H.length + 1 := by simp
 rw [e1]
 have ga : G[H.length]? = some (.var (a.row x)) := by rw [← hG,List.append_assoc,get_app0]; rfl
 have gb : G[H.length + 1]? = some (.var (b.row y)) := by rw [← hG,List.append_assoc,get_app]; rfl
 have pa : ∀ {i : Nat} {v : AV},(a.row x)[i]? = some v → peek B G (.ptr (some (.new H.length,i))) = some v := fun {i v} hv => peekV ga hv
 have pb : ∀ {i : Nat} {v : AV},(b.row y)[i]? = some v → peek B G (.ptr (some (.new (H.length + 1),i))) = some v := fun {i v} hv => peekV gb hv
 have fin : ∀ c : Bool,c = sameRq a b → tidyK n Q (.bool c) G := fun c hc => by
  subst hc; rw [← hG,List.append_assoc]; exact tidy_drop hn hH low_bool h
 have ha' : Sl B G 4 x (a.ents.map Ent.row) := by rw [← hG,List.append_assoc]; exact ha.pre
 have hb' : Sl B G 4 y (b.ents.map Ent.row) := by rw [← hG,List.append_assoc]; exact hb.pre
 refine op_fldP ?_
 rw [pa (v := x) (i := 0 + 1) rfl,ob_some]
 refine Sl.live ha _ (op_fldP ?_)
 rw [pb (v := y) (i := 0 + 1) rfl,ob_some]
 refine Sl.live hb _ (f35_ok ha' hb' hsz (tyK_bool (J15_0_in ?_)))
 refine guard_split (fun h0 => op_fldP ?_) fun h0 => fin false (by simp only [sameRq]; rw [h0]; rfl)
 rw [pa (v := .int .i64 a.kind) (i := 0 + 0) rfl,ob_some,pInt_int]
 refine op_fldP ?_
 rw [pb (v := .int .i64 b.kind) (i := 0 + 0) rfl,ob_some,pInt_int]
 refine bs_iff.2 ⟨fun h1 => op_fldP ?_,fun h1 => fin false (by simp only [sameRq]; rw [h0,h1]; rfl)⟩
 rw [pa (v := .str a.key) (i := 0 + 2) rfl,ob_some,pStr_str]
 refine op_fldP ?_
 rw [pb (v := .str b.key) (i := 0 + 2) rfl,ob_some,pStr_str]
 refine bs_iff.2 ⟨fun h2 => op_fldP ?_,fun h2 => fin false (by simp only [sameRq]; rw [h0,h1,h2]; rfl)⟩
 rw [pa (v := .str a.lo) (i := 0 + 3) rfl,ob_some,pStr_str]
 refine op_fldP ?_
 rw [pb (v := .str b.lo) (i := 0 + 3) rfl,ob_some,pStr_str]
 refine bs_iff.2 ⟨fun h3 => op_fldP ?_,fun h3 => fin false (by simp only [sameRq]; rw [h0,h1,h2,h3]; rfl)⟩
 rw [pa (v := .str a.hi) (i := 0 + 4) rfl,ob_some,pStr_str]
 refine op_fldP ?_
 rw [pb (v := .str b.hi) (i := 0 + 4) rfl,ob_some,pStr_str]
 refine bs_iff.2 ⟨fun h4 => op_fldP ?_,fun h4 => fin false (by simp only [sameRq]; rw [h0,h1,h2,h3,h4]; rfl)⟩
 rw [pa (v := .int .i64 a.epoch) (i := 0 + 5) rfl,ob_some,pInt_int]
 refine op_fldP ?_
 rw [pb (v := .int .i64 b.epoch) (i := 0 + 5) rfl,ob_some,pInt_int]
 exact ib_eqq (fin _ (by simp only [sameRq]; rw [h0,h1,h2,h3,h4]; rfl))
theorem f97_ok {us ws : List (List UInt8)} {x y : AV} (ha : PathR B H x us) (hb : PathR B H y ws) (h1 : ∀ d,d ∈ us → d.length = 32) (h2 : ∀ d,d ∈ ws → d.length = 32) (hsz : us.length ≤ 1000000) (h : Q (.bool (decide (us = ws))) H) : Cl B 97 [x,y] H Q := by
 refine f97_in fun n cl hn hcl hH hA => ?_
 subst hcl
 have hla : lenOf x = some us.length := by have := Sl.len ha; rwa [List.length_map] at this
 have hlb : lenOf y = some ws.length := by have := Sl.len hb; rwa [List.length_map] at this
 rw [hla,ob_some,hlb,ob_some]
 by_cases hl : us.length = ws.length
 ·refine bs_no (by simp [hl]) ?_
  refine cmp_go (P := fun i => L97_0 B (Cl B) n x y (i : Int) H Q) (R := fun b => Q (.bool b) H) hl (fun i a b g1 g2 k1 k2 => ?_) (fun k => ?_) h
  ·have lt1 : i < us.length := by rcases Nat.lt_or_ge i us.length with h' | h'; exact h'; rw [List.getElem?_eq_none h'] at g1; cases g1
   have la := h1 a (List.mem_of_getElem? g1)
   have lb := h2 b (List.mem_of_getElem? g2)
   have r1 : (us.map dg)[i]? = some (dg a) := by simp [g1]
   have r2' : (ws.map dg)[i]? = some (dg b) := by simp [g2]
   refine L97_0_in (ACall.cle B table) ?_
   rw [hla,ob_some]
   refine bs_yes (decide_eq_true (by omega)) (op_idx ha (by simpa using lt1) ?_)
   rw [(Sl.el ha r1).peekN (n := 32) (by rw [dg_len]; exact la),ob_some]
   refine op_idx hb (by rw [List.length_map]; omega) ?_
   rw [(Sl.el hb r2').peekN (n := 32) (by rw [dg_len]; exact lb),ob_some]
   have ae : ∀ K : AV → Heap → Prop,K (.bool (!decide (a = b))) H → aop B E0 H K (.aeq true 32 ((List.range' 0 32).map fun j => (j,.int .u8)) (.const (.agg (dg a))) (.const (.agg (dg b)))) := fun K hK => by
    have e := cmp_u8 32 0 a b rfl rfl (fun j hj => by omega)
    rw [List.drop_zero,List.drop_zero,List.take_of_length_le (by omega),List.take_of_length_le (by omega)] at e
    simp only [aop,opK,Opd.look,ob_some,e]
    rw [if_pos ⟨by rw [dg_len]; exact la,by rw [dg_len]; exact lb⟩]
    exact bool_split (K := fun v => K v H) hK
   refine ae _ ?_
   rw [pBool_bool]
   by_cases hab : a = b
   ·rw [if_neg (by simp [hab]),w64 (n := (i : Int) + 1) (by omega)]
    exact k1 hab
   ·rw [if_pos (by simp [hab])]
    exact tidy_none (k2 hab)
  ·refine L97_0_in (ACall.cle B table) ?_
   rw [hla,ob_some]
   exact bs_no (decide_eq_false (by omega)) (J97_1_in (tidy_none k))
 ·exact bs_yes (by simp; omega) (tidy_none (dec_len (R := fun b => Q (.bool b) H) h hl))
end
end Go.Am
namespace Go.Am
open Go
section
variable {B : Base} {n : Nat} {H G : Heap} {Q : AV → Heap → Prop}
theorem peekN_mid {M : Heap} {k : Nat} {a c d : List AV} {i m : Nat} (hM : M[k]? = some (.var (a ++ (c ++ d)))) (ha : a.length = i) (hc : c.length = m) : peekN B M m (.ptr (some (.new k,i))) = some c := by
 refine cellsAt_iff'.2 ⟨_,by simp only [cellsOf,hM]; rfl,by simp only [List.length_append]; omega,?_⟩
 rw [List.drop_left' ha,List.take_left' hc]
structure Two (H G : Heap) (i j : Nat) (a b : List AV) : Prop where
 pre : ∃ L,G = H ++ L
 fst : G[i]? = some (.var a)
 snd : G[j]? = some (.var b)
theorem two_box {a b : List AV} {m : Nat} {K : AV → AV → Heap → Prop} (ha : a.length = m) (hb : b.length = m)
  (hk : ∀ i j G,Two H G i j a b → K (wp i) (wp j) G) : aop B E0 H (fun v1 H2 => aop B E0 H2 (fun v3 H4 => K v1 v3 H4) (.box m (.const (.agg b)))) (.box m (.const (.agg a))) := by
 refine op_box rfl ha (op_box rfl hb (hk H.length (H ++ [AObj.var a]).length _ ⟨⟨[.var a,.var b],by simp⟩,?_,?_⟩))
 ·rw [List.append_assoc,get_app0]; rfl
 ·rw [get_app0]; rfl
theorem Two.tidy {a b : List AV} {i j : Nat} {v : AV} (t : Two H G i j a b) (hn : n = H.length) (hH : LowH n H) (hv : Low n v) (h : Q v H) : tidyK n Q v G := by
 obtain ⟨⟨L,rfl⟩,_,_⟩ := t
 exact tidy_drop hn hH hv h
theorem Two.p1 {a b : List AV} {i j k : Nat} {v : AV} (t : Two H G i j a b) (h : a[k]? = some v) : peek B G (.ptr (some (.new i,k))) = some v := peekV t.fst h
theorem Two.p2 {a b : List AV} {i j k : Nat} {v : AV} (t : Two H G i j a b) (h : b[k]? = some v) : peek B G (.ptr (some (.new j,k))) = some v := peekV t.snd h
theorem f96_ok {a b : Opn} {x y : List AV} (hx : OpR B H x a) (hy : OpR B H y b) (ha : OnOk a) (hb : OnOk b) (h : Q (.bool (decide (a = b))) H) : Cl B 96 [.agg x,.agg y] H Q := by
 obtain ⟨l1,p1,rfl,hl1,hp1⟩ := hx
 obtain ⟨l2,p2,rfl,hl2,hp2⟩ := hy
 obtain ⟨a1,a2,a3⟩ := a
 obtain ⟨b1,b2,b3⟩ := b
 refine f96_in fun n cl hn hcl hH hA => two_box rfl rfl fun i j G t => op_fldP ?_
 subst hcl
 have fin : ∀ c : Bool,c = decide ((⟨a1,a2,a3⟩ : Opn) = ⟨b1,b2,b3⟩) → tidyK n Q (.bool c) G := fun c hc => by
  subst hc; exact t.tidy hn hH low_bool h
 obtain ⟨L,hL⟩ := t.pre
 have hl1' : Bs B G l1 a2 := by rw [hL]; exact hl1.pre
 have hl2' : Bs B G l2 b2 := by rw [hL]; exact hl2.pre
 have hp1' : PathR B G p1 a3 := by rw [hL]; exact hp1.pre
 have hp2' : PathR B G p2 b3 := by rw [hL]; exact hp2.pre
 rw [t.p1 (v := .int .i64 a1) rfl,ob_some,pInt_int]
 refine op_fldP ?_
 rw [t.p2 (v := .int .i64 b1) rfl,ob_some,pInt_int]
 refine bs_iff.2 ⟨fun h1 => op_fldP ?_,fun h1 => fin false (by symm; rw [decide_eq_false_iff_not]; intro e; injection e with e1 e2 e3; subst e1; simp at h1)⟩
 have h1 : a1 = b1 := by simpa using h1
 rw [t.p1 (v := l1) rfl,ob_some]
 refine Sl.live hl1 _ (op_toStr hl1' (op_fldP ?_))
 rw [t.p2 (v := l2) rfl,ob_some]
 refine Sl.live hl2 _ (op_toStr hl2' ?_)
 rw [pStr_str,pStr_str]
 refine bs_iff.2 ⟨fun h2 => op_fldP ?_,fun h2 => fin false (by symm; rw [decide_eq_false_iff_not]; intro e; injection e with e1 e2 e3; subst e2; simp at h2)⟩
 have h2 : a2 = b2 := by simpa using h2
 rw [t.p1 (v := p1) rfl,ob_some]
 refine Sl.live hp1 _ (op_fldP ?_)
 rw [t.p2 (v := p2) rfl,ob_some]
 refine Sl.live hp2 _ (f97_ok hp1' hp2' ha.2.2.2 hb.2.2.2 (Nat.le_trans ha.2.2.1 (by decide)) (tyK_bool (fin _ ?_)))
 subst h1 h2
 simp
theorem f76_ok {a b : Pnt} {x y : List AV} (hx : PtR B H x a) (hy : PtR B H y b) (ha : PtOk a) (hb : PtOk b) (h : Q (.bool (decide (a = b))) H) : Cl B 76 [.agg x,.agg y] H Q := by
 obtain ⟨ca,cb,rfl,hca,hcb⟩ := hx
 obtain ⟨da,db,rfl,hda,hdb⟩ := hy
 obtain ⟨a1,a2,a3⟩ := a
 obtain ⟨b1,b2,b3⟩ := b
 have la : ca.length = 3 := by obtain ⟨_,_,rfl,_⟩ := hca; rfl
 have lb : cb.length = 3 := by obtain ⟨_,_,rfl,_⟩ := hcb; rfl
 have lc : da.length = 3 := by obtain ⟨_,_,rfl,_⟩ := hda; rfl
 have ld : db.length = 3 := by obtain ⟨_,_,rfl,_⟩ := hdb; rfl
 refine f76_in fun n cl hn hcl hH hA => two_box (by simp [la,lb]) (by simp [lc,ld]) fun i j G t => op_fldP ?_
 subst hcl
 have fin : ∀ c : Bool,c = decide ((⟨a1,a2,a3⟩ : Pnt) = ⟨b1,b2,b3⟩) → tidyK n Q (.bool c) G := fun c hc => by
  subst hc; exact t.tidy hn hH low_bool h
 obtain ⟨L,hL⟩ := t.pre
 have hca' : OpR B G ca a2 := by rw [hL]; exact hca.pre
 have hcb' : OpR B G cb a3 := by rw [hL]; exact hcb.pre
 have hda' : OpR B G da b2 := by rw [hL]; exact hda.pre
 have hdb' : OpR B G db b3 := by rw [hL]; exact hdb.pre
 have pa : peekN B G 3 (.ptr (some (.new i,0 + 1))) = some ca := peekN_mid (a := [.bool a1]) (d := cb) t.fst rfl la
 have pb : peekN B G 3 (.ptr (some (.new i,0 + 4))) = some cb := peekN_mid (a := .bool a1 :: ca) (d := []) (by rw [List.append_nil]; exact t.fst) (by simp [la]) lb
 have qa : peekN B G 3 (.ptr (some (.new j,0 + 1))) = some da := peekN_mid (a := [.bool b1]) (d := db) t.snd rfl lc
 have qb : peekN B G 3 (.ptr (some (.new j,0 + 4))) = some db := peekN_mid (a := .bool b1 :: da) (d := []) (by rw [List.append_nil]; exact t.snd) (by simp [lc]) ld
 rw [t.p1 (v := .bool a1) rfl,ob_some]
 refine tyK_bool (op_fldP ?_)
 rw [t.p2 (v := .bool b1) rfl,ob_some]
 refine tyK_bool ?_
 have beq : ∀ {K : AV → Heap → Prop},K (.bool (a1 == b1)) G → aop B E0 G K (.beq false (.const (.bool a1)) (.const (.bool b1))) := fun {K} hK => by
  simp only [aop,opK,Opd.look,ob_some,pBool_bool]
  exact bool_split (K := fun v => K v G) hK
 refine beq (guard_split (fun h1 => op_fldP ?_) fun h1 => fin false (by symm; rw [decide_eq_false_iff_not]; intro e; injection e with e1 e2 e3; subst e1; simp at h1))
 have h1 : a1 = b1 := by simpa using h1
 rw [pa,ob_some]
 refine op_fldP ?_
 rw [qa,ob_some]
 refine f96_ok hca' hda' ha.1 hb.1 ?_
 rw [pBool_bool]
 refine bs_iff.2 ⟨fun h2 => op_fldP ?_,fun h2 => fin false (by symm; rw [decide_eq_false_iff_not]; intro e; injection e with e1 e2 e3; exact (of_decide_eq_false h2) e2)⟩
 have h2 := of_decide_eq_true h2
 rw [pb,ob_some]
 refine op_fldP ?_
 rw [qb,ob_some]
 refine f96_ok hcb' hdb' ha.2 hb.2 (tyK_bool (fin _ ?_))
 subst h1 h2
 simp
theorem sb_neq {a b : List UInt8} {K : AV → Prop} (h : K (.bool (!(a == b)))) : sbinK .neq a b K := bool_split (K := K) h
theorem in_some {α : Type} {l : List α} {i : Nat} {a : α} (h : l[i]? = some a) : i < l.length := by
 rcases Nat.lt_or_ge i l.length with h' | h'
 ·exact h'
 ·rw [List.getElem?_eq_none h'] at h; cases h
theorem f77_ok {a b : Spn} {x y : List AV} (hx : SnR B H x a) (hy : SnR B H y b) (ha : SnOk a) (hb : SnOk b) (h : Q (.bool (decide (a = b))) H) : Cl B 77 [.agg x,.agg y] H Q := by
 obtain ⟨l1,p1,rfl,hl1,hp1⟩ := hx
 obtain ⟨l2,p2,rfl,hl2,hp2⟩ := hy
 obtain ⟨a1,a2,a3⟩ := a
 obtain ⟨b1,b2,b3⟩ := b
 refine f77_in fun n cl hn hcl hH hA => two_box rfl rfl fun i j G t => J77_5_in (op_fldP ?_)
 subst hcl
 have fin : ∀ c : Bool,c = decide ((⟨a1,a2,a3⟩ : Spn) = ⟨b1,b2,b3⟩) → tidyK n Q (.bool c) G := fun c hc => by
  subst hc; exact t.tidy hn hH low_bool h
 obtain ⟨L,hL⟩ := t.pre
 have hl1' : LvR B G l1 a2 := by rw [hL]; exact hl1.pre
 have hl2' : LvR B G l2 b2 := by rw [hL]; exact hl2.pre
 have hp1' : PathR B G p1 a3 := by rw [hL]; exact hp1.pre
 have hp2' : PathR B G p2 b3 := by rw [hL]; exact hp2.pre
 have ok1 : a2.length ≤ 100 := ha.2.1
 have bad : (⟨a1,a2,a3⟩ : Spn) ≠ ⟨b1,b2,b3⟩ → J77_0 B (Cl B) n (wp i) (wp j) (.bool true) G Q := fun hne => by
  refine J77_0_in ?_
  rw [pBool_bool,if_pos rfl]
  exact fin false (decide_eq_false hne).symm
 rw [t.p1 (v := .int .i64 a1) rfl,ob_some,pInt_int]
 refine op_fldP ?_
 rw [t.p2 (v := .int .i64 b1) rfl,ob_some,pInt_int]
 refine bs_iff.2 ⟨fun h1 => bad fun e => by injection e with e1 e2 e3; subst e1; simp at h1,fun h1 => op_fldP ?_⟩
 have h1 : a1 = b1 := by simpa using h1
 obtain ⟨us,hus,hfu⟩ := hl1'
 obtain ⟨ws,hws,hfw⟩ := hl2'
 have lu : lenOf l1 = some a2.length := by rw [hus.len,List.length_map,hfu.1]
 have lw : lenOf l2 = some b2.length := by rw [hws.len,List.length_map,hfw.1]
 rw [t.p1 (v := l1) rfl,ob_some]
 refine hus.live _ ?_
 rw [lu,ob_some]
 refine op_fldP ?_
 rw [t.p2 (v := l2) rfl,ob_some]
 refine hws.live _ ?_
 rw [lw,ob_some]
 refine bs_iff.2 ⟨fun h2 => bad fun e => by injection e with e1 e2 e3; subst e2; simp at h2,fun h2 => op_fldP ?_⟩
 have h2 : a2.length = b2.length := by
  have h2 : ((a2.length : Int) != (b2.length : Int)) = false := h2
  simp at h2; omega
 rw [t.p1 (v := p1) rfl,ob_some]
 refine Sl.live hp1 _ (op_fldP ?_)
 rw [t.p2 (v := p2) rfl,ob_some]
 refine Sl.live hp2 _ (f97_ok hp1' hp2' ha.2.2.2.2 hb.2.2.2.2 (Nat.le_trans ha.2.2.2.1 (by decide)) (tyK_bool (op_notB ?_)))
 by_cases h3 : a3 = b3
 ·rw [decide_eq_true h3]
  refine J77_0_in ?_
  rw [pBool_bool,if_neg (by decide)]
  refine cmp_go (P := fun k => L77_3 B (Cl B) n (wp i) (wp j) (k : Int) G Q) (R := fun b => tidyK n Q (.bool b) G) h2 (fun k ta tb g1 g2 k1 k2 => ?_) (fun k => ?_) (fin _ (by subst h1 h3; simp))
  ·have lt1 := in_some g1
   have lt2 := in_some g2
   obtain ⟨u,hu⟩ : ∃ u,us[k]? = some u := ⟨us[k]'(by rw [hfu.1]; exact lt1),List.getElem?_eq_getElem _⟩
   obtain ⟨w,hw⟩ : ∃ w,ws[k]? = some w := ⟨ws[k]'(by rw [hfw.1]; exact lt2),List.getElem?_eq_getElem _⟩
   have r1 : (us.map fun u => [u])[k]? = some [u] := by simp [hu]
   have r2 : (ws.map fun u => [u])[k]? = some [w] := by simp [hw]
   refine L77_3_in (ACall.cle B table) (op_fldP ?_)
   rw [t.p1 (v := l1) rfl,ob_some]
   refine hus.live _ ?_
   rw [lu,ob_some]
   refine bs_yes (decide_eq_true (by omega)) (J77_2_in (op_fldP ?_))
   rw [t.p1 (v := l1) rfl,ob_some]
   refine hus.live _ (op_idx hus (by rw [List.length_map,hfu.1]; exact lt1) ?_)
   rw [(hus.el r1).peek0 (v := u) rfl,ob_some]
   have b1' := hfu.2 k u ta hu g1
   have b2' := hfw.2 k w tb hw g2
   refine Sl.live b1' _ (op_toStr b1' (op_fldP ?_))
   rw [t.p2 (v := l2) rfl,ob_some]
   refine hws.live _ (op_idx hws (by rw [List.length_map,hfw.1]; exact lt2) ?_)
   rw [(hws.el r2).peek0 (v := w) rfl,ob_some]
   refine Sl.live b2' _ (op_toStr b2' ?_)
   rw [pStr_str,pStr_str]
   refine sb_neq (J77_1_in ?_)
   rw [pBool_bool]
   by_cases hab : ta = tb
   ·rw [if_neg (by simp [hab]),w64 (n := (k : Int) + 1) (by omega)]
    exact k1 hab
   ·rw [if_pos (by simp [hab])]
    exact k2 hab
  ·refine L77_3_in (ACall.cle B table) (op_fldP ?_)
   rw [t.p1 (v := l1) rfl,ob_some]
   refine hus.live _ ?_
   rw [lu,ob_some]
   exact bs_no (decide_eq_false (by omega)) (J77_4_in k)
 ·rw [decide_eq_false h3]
  exact bad fun e => by injection e with e1 e2 e3; exact h3 e3
end
end Go.Am
namespace Go.Am
open Go
section
variable {B : Base} {n : Nat} {H G : Heap} {Q : AV → Heap → Prop}
theorem sb_eq {a b : List UInt8} {K : AV → Prop} (h : K (.bool (a == b))) : sbinK .eql a b K := bool_split (K := K) h
theorem at_some {α β : Type} {R : α → β → Prop} {us : List α} {l : List β} (h : F2 R us l) {k : Nat} {a : β} (ha : l[k]? = some a) : ∃ u,us[k]? = some u ∧ R u a := by
 have lt := in_some ha
 have hu : us[k]? = some (us[k]'(by rw [h.1]; exact lt)) := List.getElem?_eq_getElem _
 exact ⟨_,hu,h.2 k _ a hu ha⟩
theorem f46_ok {s1 s2 : List UInt8} {a b : List Pnt} {v1 v2 w1 w2 : AV} (hv1 : Bs B H v1 s1) (hw1 : PtsR B H w1 a) (hv2 : Bs B H v2 s2) (hw2 : PtsR B H w2 b) (ha : a.length ≤ 1000000 ∧ ∀ p,p ∈ a → PtOk p) (hb : ∀ p,p ∈ b → PtOk p)
  (h : Q (.bool (decide (s1 = s2 ∧ a = b))) H) : Cl B 46 [.agg [v1,w1],.agg [v2,w2]] H Q := by
 refine f46_in fun n cl hn hcl hH hA => two_box rfl rfl fun i j G t => J46_5_in (op_fldP ?_)
 subst hcl
 have fin : ∀ c : Bool,c = decide (s1 = s2 ∧ a = b) → tidyK n Q (.bool c) G := fun c hc => by
  subst hc; exact t.tidy hn hH low_bool h
 obtain ⟨L,hL⟩ := t.pre
 have hv1' : Bs B G v1 s1 := by rw [hL]; exact hv1.pre
 have hv2' : Bs B G v2 s2 := by rw [hL]; exact hv2.pre
 have hw1' : PtsR B G w1 a := by rw [hL]; exact hw1.pre
 have hw2' : PtsR B G w2 b := by rw [hL]; exact hw2.pre
 have bad : ¬ (s1 = s2 ∧ a = b) → J46_0 B (Cl B) n (wp i) (wp j) (.bool true) G Q := fun hne => by
  refine J46_0_in ?_
  rw [pBool_bool,if_pos rfl]
  exact fin false (decide_eq_false hne).symm
 obtain ⟨us,hus,hfu⟩ := hw1'
 obtain ⟨ws,hws,hfw⟩ := hw2'
 have lu : lenOf w1 = some a.length := by rw [hus.len,hfu.1]
 have lw : lenOf w2 = some b.length := by rw [hws.len,hfw.1]
 rw [t.p1 (v := v1) rfl,ob_some]
 refine Sl.live hv1 _ (op_toStr hv1' (op_fldP ?_))
 rw [t.p2 (v := v2) rfl,ob_some]
 refine Sl.live hv2 _ (op_toStr hv2' ?_)
 rw [pStr_str,pStr_str]
 refine bs_iff.2 ⟨fun h1 => bad fun e => by rw [e.1] at h1; simp at h1,fun h1 => op_fldP ?_⟩
 have h1 : s1 = s2 := by simpa using h1
 rw [t.p1 (v := w1) rfl,ob_some]
 refine hus.live _ ?_
 rw [lu,ob_some]
 refine op_fldP ?_
 rw [t.p2 (v := w2) rfl,ob_some]
 refine hws.live _ ?_
 rw [lw,ob_some]
 by_cases h2 : a.length = b.length
 ·refine ib_ne_no (by omega) (J46_0_in ?_)
  rw [pBool_bool,if_neg (by decide)]
  refine cmp_go (P := fun k => L46_3 B (Cl B) n (wp i) (wp j) (k : Int) G Q) (R := fun b => tidyK n Q (.bool b) G) h2 (fun k ta tb g1 g2 k1 k2 => ?_) (fun k => ?_) (fin _ (by simp [h1]))
  ·have lt1 := in_some g1
   obtain ⟨u,hu,b1'⟩ := at_some hfu g1
   obtain ⟨w,hw,b2'⟩ := at_some hfw g2
   have len1 : u.length = 7 := hus.1 u (List.mem_of_getElem? hu)
   have len2 : w.length = 7 := hws.1 w (List.mem_of_getElem? hw)
   refine L46_3_in (ACall.cle B table) (op_fldP ?_)
   rw [t.p1 (v := w1) rfl,ob_some]
   refine hus.live _ ?_
   rw [lu,ob_some]
   refine bs_yes (decide_eq_true (by omega)) (J46_2_in (op_fldP ?_))
   rw [t.p1 (v := w1) rfl,ob_some]
   refine hus.live _ (op_idx hus (in_some hu) ?_)
   rw [(hus.el hu).peekN len1,ob_some]
   refine op_fldP ?_
   rw [t.p2 (v := w2) rfl,ob_some]
   refine hws.live _ (op_idx hws (in_some hw) ?_)
   rw [(hws.el hw).peekN len2,ob_some]
   refine f76_ok b1' b2' (ha.2 _ (List.mem_of_getElem? g1)) (hb _ (List.mem_of_getElem? g2)) (tyK_bool (J46_1_in ?_))
   rw [pBool_bool]
   refine bs_iff.2 ⟨fun hab => ?_,fun hab => k2 (of_decide_eq_false hab)⟩
   rw [w64 (n := (k : Int) + 1) (by omega)]
   exact k1 (of_decide_eq_true hab)
  ·refine L46_3_in (ACall.cle B table) (op_fldP ?_)
   rw [t.p1 (v := w1) rfl,ob_some]
   refine hus.live _ ?_
   rw [lu,ob_some]
   exact bs_no (decide_eq_false (by omega)) (J46_4_in k)
 ·exact ib_ne_yes (by omega) (bad fun e => h2 (by rw [e.2]))
theorem f47_ok {s1 s2 : List UInt8} {a b : List Spn} {v1 v2 w1 w2 : AV} (hv1 : Bs B H v1 s1) (hw1 : SnsR B H w1 a) (hv2 : Bs B H v2 s2) (hw2 : SnsR B H w2 b) (ha : a.length ≤ 1000000 ∧ ∀ p,p ∈ a → SnOk p) (hb : ∀ p,p ∈ b → SnOk p)
  (h : Q (.bool (decide (s1 = s2 ∧ a = b))) H) : Cl B 47 [.agg [v1,w1],.agg [v2,w2]] H Q := by
 refine f47_in fun n cl hn hcl hH hA => two_box rfl rfl fun i j G t => J47_5_in (op_fldP ?_)
 subst hcl
 have fin : ∀ c : Bool,c = decide (s1 = s2 ∧ a = b) → tidyK n Q (.bool c) G := fun c hc => by
  subst hc; exact t.tidy hn hH low_bool h
 obtain ⟨L,hL⟩ := t.pre
 have hv1' : Bs B G v1 s1 := by rw [hL]; exact hv1.pre
 have hv2' : Bs B G v2 s2 := by rw [hL]; exact hv2.pre
 have hw1' : SnsR B G w1 a := by rw [hL]; exact hw1.pre
 have hw2' : SnsR B G w2 b := by rw [hL]; exact hw2.pre
 have bad : ¬ (s1 = s2 ∧ a = b) → J47_0 B (Cl B) n (wp i) (wp j) (.bool true) G Q := fun hne => by
  refine J47_0_in ?_
  rw [pBool_bool,if_pos rfl]
  exact fin false (decide_eq_false hne).symm
 obtain ⟨us,hus,hfu⟩ := hw1'
 obtain ⟨ws,hws,hfw⟩ := hw2'
 have lu : lenOf w1 = some a.length := by rw [hus.len,hfu.1]
 have lw : lenOf w2 = some b.length := by rw [hws.len,hfw.1]
 rw [t.p1 (v := v1) rfl,ob_some]
 refine Sl.live hv1 _ (op_toStr hv1' (op_fldP ?_))
 rw [t.p2 (v := v2) rfl,ob_some]
 refine Sl.live hv2 _ (op_toStr hv2' ?_)
 rw [pStr_str,pStr_str]
 refine bs_iff.2 ⟨fun h1 => bad fun e => by rw [e.1] at h1; simp at h1,fun h1 => op_fldP ?_⟩
 have h1 : s1 = s2 := by simpa using h1
 rw [t.p1 (v := w1) rfl,ob_some]
 refine hus.live _ ?_
 rw [lu,ob_some]
 refine op_fldP ?_
 rw [t.p2 (v := w2) rfl,ob_some]
 refine hws.live _ ?_
 rw [lw,ob_some]
 by_cases h2 : a.length = b.length
 ·refine ib_ne_no (by omega) (J47_0_in ?_)
  rw [pBool_bool,if_neg (by decide)]
  refine cmp_go (P := fun k => L47_3 B (Cl B) n (wp i) (wp j) (k : Int) G Q) (R := fun b => tidyK n Q (.bool b) G) h2 (fun k ta tb g1 g2 k1 k2 => ?_) (fun k => ?_) (fin _ (by simp [h1]))
  ·have lt1 := in_some g1
   obtain ⟨u,hu,b1'⟩ := at_some hfu g1
   obtain ⟨w,hw,b2'⟩ := at_some hfw g2
   have len1 : u.length = 3 := hus.1 u (List.mem_of_getElem? hu)
   have len2 : w.length = 3 := hws.1 w (List.mem_of_getElem? hw)
   refine L47_3_in (ACall.cle B table) (op_fldP ?_)
   rw [t.p1 (v := w1) rfl,ob_some]
   refine hus.live _ ?_
   rw [lu,ob_some]
   refine bs_yes (decide_eq_true (by omega)) (J47_2_in (op_fldP ?_))
   rw [t.p1 (v := w1) rfl,ob_some]
   refine hus.live _ (op_idx hus (in_some hu) ?_)
   rw [(hus.el hu).peekN len1,ob_some]
   refine op_fldP ?_
   rw [t.p2 (v := w2) rfl,ob_some]
   refine hws.live _ (op_idx hws (in_some hw) ?_)
   rw [(hws.el hw).peekN len2,ob_some]
   refine f77_ok b1' b2' (ha.2 _ (List.mem_of_getElem? g1)) (hb _ (List.mem_of_getElem? g2)) (tyK_bool (J47_1_in ?_))
   rw [pBool_bool]
   refine bs_iff.2 ⟨fun hab => ?_,fun hab => k2 (of_decide_eq_false hab)⟩
   rw [w64 (n := (k : Int) + 1) (by omega)]
   exact k1 (of_decide_eq_true hab)
  ·refine L47_3_in (ACall.cle B table) (op_fldP ?_)
   rw [t.p1 (v := w1) rfl,ob_some]
   refine hus.live _ ?_
   rw [lu,ob_some]
   exact bs_no (decide_eq_false (by omega)) (J47_4_in k)
 ·exact ib_ne_yes (by omega) (bad fun e => h2 (by rw [e.2]))
theorem f19_ok {a b : Rpl} {x y : List AV} (hx : RpR B H x a) (hy : RpR B H y b) (oa : RpOk a) (ob_ : RpOk b) (h : Q (.bool (decide (a = b))) H) : Cl B 19 [.agg x,.agg y] H Q := by
 obtain ⟨v3,v4,v5,v6,v7,v8,rfl,r3,r4,r5,r6,r7,r8⟩ := hx
 obtain ⟨w3,w4,w5,w6,w7,w8,rfl,q3,q4,q5,q6,q7,q8⟩ := hy
 obtain ⟨a0,a1,a2,a3,a4,a5,a6,a7,a8⟩ := a
 obtain ⟨b0,b1,b2,b3,b4,b5,b6,b7,b8⟩ := b
 obtain ⟨_,_,_,_,o4,_,o6,_,o8⟩ := oa
 obtain ⟨_,_,_,_,p4,_,p6,_,p8⟩ := ob_
 refine f19_in fun n cl hn hcl hH hA => two_box rfl rfl fun i j G t => J19_8_in (op_fldP ?_)
 subst hcl
 have fin : ∀ c : Bool,c = decide ((⟨a0,a1,a2,a3,a4,a5,a6,a7,a8⟩ : Rpl) = ⟨b0,b1,b2,b3,b4,b5,b6,b7,b8⟩) → tidyK n Q (.bool c) G := fun c hc => by
  subst hc; exact t.tidy hn hH low_bool h
 have ne : ¬ (⟨a0,a1,a2,a3,a4,a5,a6,a7,a8⟩ : Rpl) = ⟨b0,b1,b2,b3,b4,b5,b6,b7,b8⟩ → tidyK n Q (.bool false) G := fun hne => fin false (decide_eq_false hne).symm
 have bad : ¬ (⟨a0,a1,a2,a3,a4,a5,a6,a7,a8⟩ : Rpl) = ⟨b0,b1,b2,b3,b4,b5,b6,b7,b8⟩ → J19_0 B (Cl B) n (wp i) (wp j) (.bool true) G Q := fun hne => by
  refine J19_0_in ?_
  rw [pBool_bool,if_pos rfl]
  exact ne hne
 obtain ⟨L,hL⟩ := t.pre
 have r3' : Bs B G v3 a3 := by rw [hL]; exact r3.pre
 have q3' : Bs B G w3 b3 := by rw [hL]; exact q3.pre
 have r4' : PtsR B G v4 a4 := by rw [hL]; exact r4.pre
 have q4' : PtsR B G w4 b4 := by rw [hL]; exact q4.pre
 have r5' : Bs B G v5 a5 := by rw [hL]; exact r5.pre
 have q5' : Bs B G w5 b5 := by rw [hL]; exact q5.pre
 have r6' : SnsR B G v6 a6 := by rw [hL]; exact r6.pre
 have q6' : SnsR B G w6 b6 := by rw [hL]; exact q6.pre
 have r7' : Bs B G v7 a7 := by rw [hL]; exact r7.pre
 have q7' : Bs B G w7 b7 := by rw [hL]; exact q7.pre
 have r8' : RowsR B G v8 a8 := by rw [hL]; exact r8.pre
 have q8' : RowsR B G w8 b8 := by rw [hL]; exact q8.pre
 rw [peekN_mid (i := 0 + 3) (m := 2) (a := [.int .i64 a0,.int .i64 a1,.int .i64 a2]) (c := [v3,v4]) (d := [v5,v6,v7,v8]) t.fst rfl rfl,ob_some]
 refine op_fldP ?_
 rw [peekN_mid (i := 0 + 3) (m := 2) (a := [.int .i64 b0,.int .i64 b1,.int .i64 b2]) (c := [w3,w4]) (d := [w5,w6,w7,w8]) t.snd rfl rfl,ob_some]
 refine f46_ok r3' r4' q3' q4' ⟨Nat.le_trans o4.1 (by decide),o4.2⟩ p4.2 (tyK_bool (J19_7_in (op_fldP ?_)))
 rw [peekN_mid (i := 0 + 5) (m := 2) (a := [.int .i64 a0,.int .i64 a1,.int .i64 a2,v3,v4]) (c := [v5,v6]) (d := [v7,v8]) t.fst rfl rfl,ob_some]
 refine op_fldP ?_
 rw [peekN_mid (i := 0 + 5) (m := 2) (a := [.int .i64 b0,.int .i64 b1,.int .i64 b2,w3,w4]) (c := [w5,w6]) (d := [w7,w8]) t.snd rfl rfl,ob_some]
 refine f47_ok r5' r6' q5' q6' ⟨Nat.le_trans o6.1 (by decide),o6.2⟩ p6.2 (tyK_bool (J19_6_in ?_))
 rw [pBool_bool]
 refine bs_iff.2 ⟨fun e1 => ?_,fun e1 => bad fun e => (of_decide_eq_false e1) (by injection e with e0 e1 e2 e3 e4 e5 e6 e7 e8; exact ⟨e3,e4⟩)⟩
 obtain ⟨e3,e4⟩ := of_decide_eq_true e1
 rw [pBool_bool]
 refine bs_iff.2 ⟨fun e1 => op_fldP ?_,fun e1 => bad fun e => (of_decide_eq_false e1) (by injection e with e0 e1 e2 e3 e4 e5 e6 e7 e8; exact ⟨e5,e6⟩)⟩
 obtain ⟨e5,e6⟩ := of_decide_eq_true e1
 obtain ⟨us,hus,hfu⟩ := r8'
 obtain ⟨ws,hws,hfw⟩ := q8'
 have lu : lenOf v8 = some a8.length := by rw [hus.len,List.length_map,hfu.1]
 have lw : lenOf w8 = some b8.length := by rw [hws.len,List.length_map,hfw.1]
 rw [t.p1 (v := v8) rfl,ob_some]
 refine hus.live _ ?_
 rw [lu,ob_some]
 refine op_fldP ?_
 rw [t.p2 (v := w8) rfl,ob_some]
 refine hws.live _ ?_
 rw [lw,ob_some]
 by_cases h2 : ¬ a8.length = b8.length
 ·exact ib_ne_yes (by omega) (bad fun e => h2 (by injection e with e0 e1 e2 e3 e4 e5 e6 e7 e8; rw [e8]))
 have h2 : a8.length = b8.length := Decidable.of_not_not h2
 refine ib_ne_no (by omega) (J19_0_in ?_)
 rw [pBool_bool,if_neg (by decide)]
 refine J19_5_in (cmp_go (P := fun k => L19_3 B (Cl B) n (wp i) (wp j) (k : Int) G Q) (R := fun b => (b = true → J19_4 B (Cl B) n (wp i) (wp j) G Q) ∧ (b = false → tidyK n Q (.bool false) G)) h2 (fun k ta tb g1 g2 k1 k2 => ?_) (fun k => ?_) ⟨fun e8 => ?_,fun e8 => ?_⟩)
 ·have lt1 := in_some g1
  obtain ⟨u,hu,b1'⟩ := at_some hfu g1
  obtain ⟨w,hw,b2'⟩ := at_some hfw g2
  have r1 : (us.map fun u => [u])[k]? = some [u] := by simp [hu]
  have r2 : (ws.map fun u => [u])[k]? = some [w] := by simp [hw]
  refine L19_3_in (ACall.cle B table) (op_fldP ?_)
  rw [t.p1 (v := v8) rfl,ob_some]
  refine hus.live _ ?_
  rw [lu,ob_some]
  refine bs_yes (decide_eq_true (by omega)) (J19_2_in (op_fldP ?_))
  rw [t.p1 (v := v8) rfl,ob_some]
  refine hus.live _ (op_idx hus (in_some r1) ?_)
  rw [(hus.el r1).peek0 (v := u) rfl,ob_some]
  refine Sl.live b1' _ (op_fldP ?_)
  rw [t.p2 (v := w8) rfl,ob_some]
  refine hws.live _ (op_idx hws (in_some r2) ?_)
  rw [(hws.el r2).peek0 (v := w) rfl,ob_some]
  refine Sl.live b2' _ (f35_ok b1' b2' (Nat.le_trans (o8.2 _ (List.mem_of_getElem? g1)) (by decide)) (tyK_bool (J19_1_in ?_)))
  rw [pBool_bool]
  refine bs_iff.2 ⟨fun hab => ?_,fun hab => (k2 (of_decide_eq_false hab)).2 rfl⟩
  have lk : a8.length ≤ 600 := o8.1
  rw [w64 (n := (k : Int) + 1) (by omega)]
  exact k1 (of_decide_eq_true hab)
 ·refine L19_3_in (ACall.cle B table) (op_fldP ?_)
  rw [t.p1 (v := v8) rfl,ob_some]
  refine hus.live _ ?_
  rw [lu,ob_some]
  exact bs_no (decide_eq_false (by omega)) (k.1 rfl)
 ·have e8 := of_decide_eq_true e8
  subst e3 e4 e5 e6 e8
  refine J19_4_in (op_fldP ?_)
  rw [t.p1 (v := .int .i64 a0) rfl,ob_some,pInt_int]
  refine op_fldP ?_
  rw [t.p2 (v := .int .i64 b0) rfl,ob_some,pInt_int]
  refine bs_iff.2 ⟨fun h0 => op_fldP ?_,fun h0 => ne fun e => by injection e with e0; subst e0; simp at h0⟩
  rw [t.p1 (v := .int .i64 a1) rfl,ob_some,pInt_int]
  refine op_fldP ?_
  rw [t.p2 (v := .int .i64 b1) rfl,ob_some,pInt_int]
  refine bs_iff.2 ⟨fun h1 => op_fldP ?_,fun h1 => ne fun e => by injection e with e0 e1; subst e1; simp at h1⟩
  rw [t.p1 (v := .int .i64 a2) rfl,ob_some,pInt_int]
  refine op_fldP ?_
  rw [t.p2 (v := .int .i64 b2) rfl,ob_some,pInt_int]
  refine bs_iff.2 ⟨fun h2 => op_fldP ?_,fun h2 => ne fun e => by injection e with e0 e1 e2; subst e2; simp at h2⟩
  rw [t.p1 (v := v7) rfl,ob_some]
  refine Sl.live r7 _ (op_toStr r7' (op_fldP ?_))
  rw [t.p2 (v := w7) rfl,ob_some]
  refine Sl.live q7 _ (op_toStr q7' ?_)
  rw [pStr_str,pStr_str]
  refine sb_eq (fin _ ?_)
  have h0 : a0 = b0 := by simpa using h0
  have h1 : a1 = b1 := by simpa using h1
  have h2 : a2 = b2 := by simpa using h2
  subst h0 h1 h2
  rw [Bool.eq_iff_iff]
  simp
 ·exact ne fun e => (of_decide_eq_false e8) (by injection e with e0 e1 e2 e3 e4 e5 e6 e7 e8)
end
end Go.Am
namespace Go.Am
open Go
theorem vr_cap {n : Nat} {m : Plcs} {v : AV} {x : Value} (h : VR n m v x) : capOK v := fun o off len es c e => by
 subst e
 obtain ⟨_,a,c2,rfl,h1,h2,_⟩ := h
 omega
theorem min_nat {k m : Nat} : minInts (k : Int) [(m : Int)] = ((min k m : Nat) : Int) := by
 simp only [minInts,List.foldl]
 omega
section
variable {B : Base} {n : Nat} {H G L : Heap} {Q : AV → Heap → Prop}
theorem op_sl1 {K : AV → Heap → Prop} {es len : Nat} {v r : AV} {b : Int} (hl : lenOf v = some len) (hs : sliceOf es v 0 b = some r) (hk : K r G) : aop B E0 G K (.sliceL es (.const v) none (some (.const (.int .i64 b))) none) := by
 simp only [aop,opK,Opd.look,ob_some,hl,optK,pAny_int,hs]; exact hk
theorem bs_take {v : AV} {s : List UInt8} (h : Bs B H v s) (hc : capOK v) (m : Nat) : ∃ v',sliceOf 1 v 0 (minInts (s.length : Int) [(m : Int)]) = some v' ∧ Bs B H v' (s.take m) ∧ capOK v' := by
 obtain ⟨v',h1,h2,h3⟩ := cut_of (a := 0) (b := min s.length m) (bs_rows h) hc (Nat.zero_le _) (by rw [List.length_map]; omega)
 refine ⟨v',by rw [min_nat]; exact h1,?_,h3⟩
 rw [brw_take,List.drop_zero,Nat.sub_zero,show s.take (min s.length m) = s.take m from by rw [List.take_eq_take_min (i := m),Nat.min_comm]] at h2
 exact h2
theorem op_appB {v u : AV} {s t : List UInt8} {K : AV → Heap → Prop} (hv : AppOk B H L 1 v (s.map brw)) (hu : Bs B (H ++ L) u t) (hb : s.length + t.length ≤ 1000000)
  (hk : ∀ v' L',AppOk B H L' 1 v' ((s ++ t).map brw) → K v' (H ++ L')) : aop B E0 (H ++ L) K (.append 1 1 (.const v) (.const u)) := by
 have hbig : maxBytes = 140737488355328 := rfl
 by_cases ht : t = []
 ·subst ht
  rw [List.append_nil] at hk
  have hn : appendTo B (H ++ L) 1 1 v 0 [] = some (v,H ++ L) := by
   obtain ⟨_,⟨rfl,_⟩ | ⟨o2,off2,rfl,_⟩ | ⟨j,_,rfl,_⟩⟩ := hv <;> rfl
  exact op_app (m := 0) (c := []) (Bs.len hu) (Sl.elems hu) rfl hn (hk v L hv)
 ·refine op_appX hv hu (by simpa using ht) (by simp only [List.length_map]; omega) fun L1 hl hi => ?_
  have := hk (.slice (.new (H.length + L.length)) 0 ((s ++ t).map brw).length 1 none) (L1 ++ [.arr ((s ++ t).map brw).flatten])
  rw [List.map_append] at this
  refine this ⟨fun r hr => ?_,.inr (.inr ⟨L.length,by simp [ht],rfl,?_⟩)⟩
  ·rcases List.mem_append.1 hr with hr | hr
   ·exact brws_len _ r hr
   ·exact brws_len _ r hr
  ·rw [← hl,List.getElem?_append_right (Nat.le_refl _),Nat.sub_self]; rfl
theorem app_zero : AppOk B H [.arr []] 1 (.slice (.new H.length) 0 0 1 (some 0)) (([] : List UInt8).map brw) :=
 ⟨fun r hr => by simp at hr,.inr (.inl ⟨.new H.length,0,rfl,cellsAt_iff'.2 ⟨[],by simp only [cellsOf,get_app0]; rfl,by simp,rfl⟩⟩)⟩
def Rep (B : Base) (G : Heap) (kind : Int) (s : List UInt8) (q : Nat) (e : Int) : Prop := ∃ c,G[q]? = some (.var c) ∧ c.length = 9 ∧ ((sayGood kind s = true ∧ e = 0 ∧ RpR B G c (sayOfP kind s).1) ∨ (sayGood kind s = false ∧ e = 2))
theorem RpR.pre' {c : List AV} {r : Rpl} (h : RpR B G c r) : RpR B (G ++ L) c r := by
 obtain ⟨v3,v4,v5,v6,v7,v8,e,r3,r4,r5,r6,r7,r8⟩ := h
 exact ⟨v3,v4,v5,v6,v7,v8,e,r3.pre,r4.pre,r5.pre,r6.pre,r7.pre,r8.pre⟩
theorem RpR.nine {c : List AV} {r : Rpl} (h : RpR B G c r) : c.length = 9 := by
 obtain ⟨v3,v4,v5,v6,v7,v8,rfl,_⟩ := h; rfl
theorem Rep.pre {kind : Int} {s : List UInt8} {q : Nat} {e : Int} (h : Rep B G kind s q e) : Rep B (G ++ L) kind s q e := by
 obtain ⟨c,h1,h2,h3⟩ := h
 exact ⟨c,get_pre h1,h2,h3.imp (fun ⟨a,b,c⟩ => ⟨a,b,c.pre'⟩) id⟩
theorem askOfP_ok {s : List UInt8} (h : s.length ≤ 1000000) : RqOk (askOfP s).1 := by
 cases s with
 | nil => exact ⟨by decide,Nat.zero_le _,Nat.zero_le _,Nat.zero_le _,Nat.zero_le _⟩
 | cons c r => exact askP_ok (by rw [List.length_cons] at h; show r.length ≤ _; omega)
end
end Go.Am
