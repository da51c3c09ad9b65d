/- The laws' cut copies: paths,openings,entries,requests. -/
import Derived.Test.YtdkgdkifeedcnaaSmB
namespace Go.Am
open Go
section
variable {B : Base} {n : Nat} {H G G' : Heap} {C C' : Nat → Option AObj} {Q : AV → Heap → Prop}
theorem KW.zero : KW G G (fun _ => none) := ⟨⟨[],(List.append_nil _).symm⟩,fun p o hp => by cases hp⟩
theorem live_slF {k0 es : Nat} {v : AV} {rows : List (List AV)} {K : AV → Prop} (h : SlF C k0 es v rows) (hk : K v) : pLive v K := live_isL (slF_isL h) hk
end
end Go.Am
namespace Go.Am
open Go
section
variable {B : Base} {n : Nat} {H G G' : Heap} {C C' : Nat → Option AObj} {Q : AV → Heap → Prop}
theorem AccA.set {k0 es q : Nat} {v : AV} {rows : List (List AV)} {c : List AV} {o : AObj} (a : AccA H G C k0 es v rows) (hq : C q = some (.var c)) : AccA H (G.set q o) (updC C q o) k0 es v rows := by
 obtain ⟨h0,h1 | ⟨j,rfl,h1,h2,h3,h4⟩⟩ := a
 ·exact ⟨h0,.inl h1⟩
 ·have hne : q ≠ j := fun e => by subst e; rw [hq] at h4; cases h4
  exact ⟨h0,.inr ⟨j,rfl,h1,h2,by rw [get_set_ne hne]; exact h3,by rw [updC_ne (Ne.symm hne)]; exact h4⟩⟩
theorem AccA.addC {k0 es : Nat} {v : AV} {rows : List (List AV)} {o : AObj} (a : AccA H G C k0 es v rows) : AccA H (G ++ [o]) (updC C G.length o) k0 es v rows := by
 obtain ⟨h0,h1 | ⟨j,rfl,h1,h2,h3,h4⟩⟩ := a
 ·exact ⟨h0,.inl h1⟩
 ·have := lt_of_get h3
  exact ⟨h0,.inr ⟨j,rfl,h1,h2,get_pre h3,by rw [updC_ne (by omega)]; exact h4⟩⟩
theorem AccA.grow {k0 es : Nat} {v : AV} {rows : List (List AV)} {L : Heap} (a : AccA H G C k0 es v rows) : AccA H (G ++ L) C k0 es v rows := by
 obtain ⟨h0,h1 | ⟨j,rfl,h1,h2,h3,h4⟩⟩ := a
 ·exact ⟨h0,.inl h1⟩
 ·exact ⟨h0,.inr ⟨j,rfl,h1,h2,get_pre h3,h4⟩⟩
theorem AccA.live {k0 es : Nat} {v : AV} {rows : List (List AV)} {K : AV → Prop} (a : AccA H G C k0 es v rows) (hk : K v) : pLive v K := by
 obtain ⟨h0,⟨rfl,_⟩ | ⟨j,rfl,_⟩⟩ := a <;> exact hk
theorem AccA.cells {k0 es : Nat} {v : AV} {rows : List (List AV)} (a : AccA H G C k0 es v rows) : v.cells? = some [v] := by
 obtain ⟨h0,⟨rfl,_⟩ | ⟨j,rfl,_⟩⟩ := a <;> rfl
theorem AccA.done {k0 es : Nat} {v : AV} {rows : List (List AV)} (a : AccA H G C k0 es v rows) (k : KW H G C) : ∃ C',KW H G C' ∧ (∀ p o,C p = some o → C' p = some o) ∧ SlF C' k0 es v rows := by
 obtain ⟨h0,⟨rfl,rfl⟩ | ⟨q,rfl,h1,h2,h3,h4⟩⟩ := a
 ·exact ⟨C,k,fun _ _ h => h,h0,.inl ⟨rfl,rfl⟩⟩
 ·refine ⟨updC C q (.arr rows.flatten),⟨k.pre,fun j o hj => ?_⟩,fun j o hj => ?_,h0,.inr ⟨q,none,rfl,h1,updC_at⟩⟩
  ·unfold updC at hj
   split at hj
   ·rename_i e; subst e; cases hj; exact h3
   ·exact k.cs j o hj
  ·rw [updC_ne (fun e => by subst e; rw [h4] at hj; cases hj)]; exact hj
theorem sl_one {es : Nat} {row : List AV} (h : row.length = es) : Sl B (G ++ [.arr row]) es (.slice (.new G.length) 0 1 es (some 1)) [row] := sl_row1 h
end
end Go.Am
namespace Go.Am
open Go
def Mono (T : MM → Prop) : Prop := ∀ N N' : MM,(∀ es v rows,N es v rows → N' es v rows) → T N → T N'
structure Z16 (G M : Heap) (C : Nat → Option AObj) (x1 x2 x3 : Nat) (c0 cc : List AV) (T : MM → Prop) : Prop where
 k : KW G M C
 c1 : C x1 = some (.var c0)
 c2 : C x2 = some (.var (row3 0 0 0))
 c3 : C x3 = some (.var cc)
 l2 : G.length ≤ x2
 l3 : G.length ≤ x3
 n13 : x1 ≠ x3
 n23 : x2 ≠ x3
 t : T (SlF C G.length)
section
variable {B : Base} {n : Nat} {G M M' : Heap} {C C' : Nat → Option AObj} {Q : AV → Heap → Prop} {x1 x2 x3 : Nat} {c0 cc : List AV} {T : MM → Prop}
theorem Z16.add (hT : Mono T) (z : Z16 G M C x1 x2 x3 c0 cc T) (o : AObj) : Z16 G (M ++ [o]) (updC C M.length o) x1 x2 x3 c0 cc T :=
 ⟨z.k.add o,keeps_add z.k _ _ z.c1,keeps_add z.k _ _ z.c2,keeps_add z.k _ _ z.c3,z.l2,z.l3,z.n13,z.n23,hT _ _ (SlF.add z.k) z.t⟩
theorem Z16.grow (z : Z16 G M C x1 x2 x3 c0 cc T) (L : List AObj) : Z16 G (M ++ L) C x1 x2 x3 c0 cc T :=
 ⟨z.k.grow L,z.c1,z.c2,z.c3,z.l2,z.l3,z.n13,z.n23,z.t⟩
theorem Z16.keep (hT : Mono T) (z : Z16 G M C x1 x2 x3 c0 cc T) (k' : KW G M' C') (e : ∀ p o,C p = some o → C' p = some o) : Z16 G M' C' x1 x2 x3 c0 cc T :=
 ⟨k',e _ _ z.c1,e _ _ z.c2,e _ _ z.c3,z.l2,z.l3,z.n13,z.n23,hT _ _ (fun _ _ _ h => h.mono (Nat.le_refl _) fun j o _ hj => e j _ hj) z.t⟩
theorem Z16.set (hT : Mono T) (z : Z16 G M C x1 x2 x3 c0 cc T) (cc' : List AV) : Z16 G (M.set x3 (.var cc')) (updC C x3 (.var cc')) x1 x2 x3 c0 cc' T :=
 ⟨z.k.set z.c3 z.l3 _,by rw [updC_ne z.n13]; exact z.c1,by rw [updC_ne z.n23]; exact z.c2,updC_at,z.l2,z.l3,z.n13,z.n23,hT _ _ (SlF.upd z.c3) z.t⟩
theorem Z16.re {T' : MM → Prop} (z : Z16 G M C x1 x2 x3 c0 cc T) (t : T' (SlF C G.length)) : Z16 G M C x1 x2 x3 c0 cc T' := ⟨z.k,z.c1,z.c2,z.c3,z.l2,z.l3,z.n13,z.n23,t⟩
theorem Z16.p1 (z : Z16 G M C x1 x2 x3 c0 cc T) {i : Nat} {v : AV} (h : c0[i]? = some v) : peek B M (.ptr (some (.new x1,i))) = some v := peekV (z.k.cs _ _ z.c1) h
theorem Z16.p3 (z : Z16 G M C x1 x2 x3 c0 cc T) {i : Nat} {v : AV} (h : cc[i]? = some v) : peek B M (.ptr (some (.new x3,i))) = some v := peekV (z.k.cs _ _ z.c3) h
theorem Z16.put (hT : Mono T) (z : Z16 G M C x1 x2 x3 c0 cc T) {off : Nat} {v : AV} {cc' : List AV} {K : Heap → Prop} (hv : v.cells? = some [v]) (ho : off + 1 ≤ cc.length) (hp : putAt cc off [v] = cc')
  (hK : Z16 G (M.set x3 (.var cc')) (updC C x3 (.var cc')) x1 x2 x3 c0 cc' T → K (M.set x3 (.var cc'))) : aop B E0 M (fun _ H => K H) (.st 1 (.const (.ptr (some (.new x3,off)))) (.const v)) := by
 refine op_st (c := cc) (vs := [v]) hv rfl (z.k.cs _ _ z.c3) ho ?_
 rw [hp]
 exact hK (z.set hT cc')
theorem F2.len {α β : Type} {R : α → β → Prop} {l : List α} {m : List β} (h : F2 R l m) : l.length = m.length := h.1
abbrev cc9 (e l p : Int) (w3 w4 w5 w6 w7 w8 : AV) : List AV := [.int .i64 e,.int .i64 l,.int .i64 p,w3,w4,w5,w6,w7,w8]
end
end Go.Am
namespace Go.Am
open Go
section
variable {B : Base} {n : Nat} {G M M' : Heap} {C C' : Nat → Option AObj} {Q : AV → Heap → Prop} {x1 x2 x3 : Nat} {c0 cc : List AV} {T : MM → Prop}
end
end Go.Am
namespace Go.Am
open Go
section
variable {B : Base} {n : Nat} {G M M' : Heap} {C C' : Nat → Option AObj} {Q : AV → Heap → Prop} {x1 x2 x3 : Nat} {c0 cc : List AV} {T : MM → Prop}
end
end Go.Am
namespace Go.Am
open Go
section
variable {B : Base} {n : Nat} {H G : Heap} {Q : AV → Heap → Prop} {e : Ent}
theorem f63_ok (h : Q (.bool (entR e)) H) : Cl B 63 [.agg e.row] H Q := by
 refine f63_in fun n cl hn hcl hH hA => op_box rfl rfl (J63_0_in ?_)
 have p : ∀ {i : Nat} {v : AV},e.row[i]? = some v → peek B (H ++ [AObj.var e.row]) (.ptr (some (.new H.length,i))) = some v := fun {i v} hv => peekV (c := e.row) (by rw [get_app0]; rfl) hv
 have fin : ∀ b : Bool,b = entR e → tidyK n Q (.bool b) (H ++ [.var e.row]) := fun b hb => by subst hb; exact tidy_drop hn hH low_bool h
 have k0 : (!(e.key == [])) = decide ((e.key.length : Int) ≥ 1) := by
  cases e.key with
  | nil => rfl
  | cons a b => simp; omega
 refine op_fldP ?_
 rw [p (v := .str e.key) (i := 0 + 0) rfl,ob_some,pStr_str]
 refine bs_iff.2 ⟨fun h1 => op_fldP ?_,fun h1 => fin _ (by simp only [entR]; rw [k0,h1]; rfl)⟩
 rw [← k0] at h1
 rw [p (v := .str e.key) (i := 0 + 0) rfl,ob_some,pStr_str]
 refine bs_iff.2 ⟨fun h2 => op_fldP ?_,fun h2 => fin _ (by simp only [entR]; rw [h1,h2]; rfl)⟩
 rw [p (v := .str e.value) (i := 0 + 1) rfl,ob_some,pStr_str]
 refine bs_iff.2 ⟨fun h3 => op_fldP ?_,fun h3 => fin _ (by simp only [entR]; rw [h1,h2,h3]; rfl)⟩
 rw [p (v := .bool e.del) (i := 0 + 2) rfl,ob_some,pBool_bool]
 have tail : (e.del && !(e.value == [])) = false → aop B E0 (H ++ [.var e.row]) (fun v27 _ => ob (peek B (H ++ [.var e.row]) v27) fun c28 => pInt .i64 c28 fun n29 => bs (decide (n29 ≥ 1)) (aop B E0 (H ++ [.var e.row]) (fun v30 _ => ob (peek B (H ++ [.var e.row]) v30) fun c31 => pInt .i64 c31 fun n32 => ibinK .leq .i64 n32 1099511627776 fun v33 => tidyK n Q v33 (H ++ [.var e.row])) (.fieldPtr 3 (.const (.ptr (some (.new H.length,0)))))) (tidyK n Q (.bool false) (H ++ [.var e.row]))) (.fieldPtr 3 (.const (.ptr (some (.new H.length,0))))) := fun h4 => by
  refine op_fldP ?_
  rw [p (v := .int .i64 e.seq) (i := 0 + 3) rfl,ob_some,pInt_int]
  refine bs_iff.2 ⟨fun h5 => op_fldP ?_,fun h5 => fin _ (by simp only [entR]; rw [h1,h2,h3,h4,h5]; rfl)⟩
  rw [p (v := .int .i64 e.seq) (i := 0 + 3) rfl,ob_some,pInt_int]
  exact ib_le (fin _ (by simp only [entR]; rw [h1,h2,h3,h4,h5]; rfl))
 refine bs_iff.2 ⟨fun h4 => op_fldP ?_,fun h4 => tail (by rw [h4]; rfl)⟩
 rw [p (v := .str e.value) (i := 0 + 1) rfl,ob_some,pStr_str,pStr_str]
 exact bs_iff.2 ⟨fun h5 => tail (by rw [h4,h5]; rfl),fun h5 => fin _ (by simp only [entR]; rw [h1,h2,h3,h4,h5]; rfl)⟩
theorem mod_byte (x : Nat) : IntKind.u8.wrap (IntKind.u8.wrap (Int.tmod (x : Int) 128) + 128) = (((UInt8.ofNat (x % 128 + 128)).toNat : Nat) : Int) := by
 have e1 : Int.tmod (x : Int) 128 = ((x % 128 : Nat) : Int) := by rw [Int.tmod_eq_emod_of_nonneg (by omega)]; omega
 rw [e1,IntWalk.u8_in ((x % 128 : Nat) : Int) (by omega),IntWalk.u8_in (((x % 128 : Nat) : Int) + 128) (by omega),UInt8.toNat_ofNat_of_lt' (by show _ < 256; omega)]; omega
theorem f66_loop (hn : n = H.length) (hH : LowH n H) (x : Nat) : ∀ (s : List UInt8) (m : Nat) (L : Heap),x < 128 ^ m → x < 18446744073709551616 → s.length + m ≤ 1000000000000 → Q (.str (s ++ putF x)) H → L66_0 B (Cl B) n (.str s) (x : Int) (H ++ L) Q := by
 induction x using Nat.strongRecOn with
 | ind x ih =>
 intro s m L hx h64 hsz h
 rw [putF] at h
 refine L66_0_in (ACall.cle B table) (bs_dec (fun h1 => ?_) fun h1 => J66_1_in ?_)
 ·obtain ⟨m,rfl⟩ : ∃ m',m = m' + 1 := by
   cases m with
   | zero => simp at hx; omega
   | succ m => exact ⟨m,rfl⟩
  have hx2 : x / 128 < 128 ^ m := by
   rw [Nat.pow_succ] at hx
   omega
  rw [if_neg (by omega)] at h
  rw [if_neg (by decide),mod_byte,show layParts [(.int .u8 0)] [(0,1,.int .u8 (((UInt8.ofNat (x % 128 + 128)).toNat : Nat) : Int))] = some (brw (UInt8.ofNat (x % 128 + 128))) from rfl,ob_some]
  refine slK_in (op_toStr (s := [UInt8.ofNat (x % 128 + 128)]) (sl_row1 rfl) ?_)
  rw [pStr_str,pStr_str]
  refine sb_add (by simp [maxInt]; omega) ?_
  have e2 : IntKind.u64.wrap (Int.tdiv (x : Int) 128) = ((x / 128 : Nat) : Int) := by
   have : Int.tdiv (x : Int) 128 = ((x / 128 : Nat) : Int) := by rw [Int.tdiv_eq_ediv_of_nonneg (by omega)]; omega
   rw [this]
   simp only [IntKind.wrap,IntKind.bits,IntKind.signed]
   simp; omega
  rw [if_neg (by decide),e2,List.append_assoc]
  refine ih (x / 128) (by omega) _ m _ hx2 (by omega) (by simp; omega) ?_
  simpa using h
 ·rw [if_pos (by omega)] at h
  rw [last_byte (by omega),show layParts [(.int .u8 0)] [(0,1,.int .u8 (((UInt8.ofNat x).toNat : Nat) : Int))] = some (brw (UInt8.ofNat x)) from rfl,ob_some]
  refine slK_in (op_toStr (s := [UInt8.ofNat x]) (sl_row1 rfl) ?_)
  rw [pStr_str,pStr_str]
  refine sb_add (by simp [maxInt]; omega) ?_
  rw [List.append_assoc]
  exact tidy_drop hn hH low_str h
theorem f66_ok {s : List UInt8} {x : Nat} (hx : x < 18446744073709551616) (hs : s.length ≤ 900000000000) (h : Q (.str (s ++ putF x)) H) : Cl B 66 [.str s,.int .u64 (x : Int)] H Q := by
 refine f66_in fun n cl hn hcl hH hA => ?_
 subst hcl
 have := f66_loop (B := B) (Q := Q) hn hH x s 10 [] (by omega) hx (by omega) h
 rwa [List.append_nil] at this
theorem f65_ok {s t : List UInt8} (hs : s.length ≤ 900000000000) (ht : t.length ≤ 1000000) (h : Q (.str (s ++ putF t.length ++ t)) H) : Cl B 65 [.str s,.str t] H Q := by
 refine f65_in fun n cl hn hcl hH hA => ?_
 subst hcl
 have e : IntKind.u64.wrap ((t.length : Nat) : Int) = ((t.length : Nat) : Int) := by
  simp only [IntKind.wrap,IntKind.bits,IntKind.signed]
  simp; omega
 have hp := putF_small t.length (by omega)
 rw [e]
 refine f66_ok (by omega) hs ?_
 rw [pStr_str]
 exact sb_add (by simp [maxInt]; omega) (tidy_none h)
theorem f32_ok {s t : List UInt8} (hs : s.length ≤ 900000000000) (ht : t.length ≤ 1000000) (h : Q (.str (s ++ putF t.length ++ t)) H) : Cl B 32 [.str s,.str t] H Q := by
 refine f32_in fun n cl hn hcl hH hA => ?_
 subst hcl
 refine f65_ok hs ht ?_
 rw [pStr_str]
 exact tidy_none h
theorem f34_ok {s : List UInt8} {x : Int} (hs : s.length ≤ 900000000000) (hx : 0 ≤ x ∧ x ≤ 9223372036854775807) (h : Q (.str (s ++ putF x.toNat)) H) : Cl B 34 [.str s,.int .i64 x] H Q := by
 refine f34_in fun n cl hn hcl hH hA => ?_
 subst hcl
 have e : IntKind.u64.wrap x = ((x.toNat : Nat) : Int) := by
  simp only [IntKind.wrap,IntKind.bits,IntKind.signed]
  simp; omega
 rw [e]
 refine f66_ok (by omega) hs ?_
 rw [pStr_str]
 exact tidy_none h
theorem f33_ok {x : Int} (h : Q (.bool (numOk x)) H) : Cl B 33 [.int .i64 x] H Q := by
 refine f33_in fun n cl hn hcl hH hA => ?_
 refine bs_dec (fun h1 => ib_le (tidy_none ?_)) fun h1 => tidy_none ?_
 ·have : numOk x = decide (x ≤ 1099511627776) := by simp only [numOk]; rw [decide_eq_true (by omega : (0 : Int) ≤ x),Bool.true_and]
  rw [← this]; exact h
 ·have : numOk x = false := by simp only [numOk]; rw [decide_eq_false (by omega : ¬ (0 : Int) ≤ x),Bool.false_and]
  rw [← this]; exact h
theorem f64_ok (hr : entR e = true) (h : Q (.str (entB e)) H) : Cl B 64 [.agg e.row] H Q := by
 refine f64_in fun n cl hn hcl hH hA => op_box rfl rfl (J64_4_in ?_)
 subst hcl
 obtain ⟨l1,l2,l3,l4⟩ := entR_len hr
 have g0 : (H ++ [AObj.var e.row])[H.length]? = some (.var e.row) := by rw [get_app0]; rfl
 have p : ∀ {M : Heap} {i : Nat} {v : AV},e.row[i]? = some v → peek B (H ++ [AObj.var e.row] ++ M) (.ptr (some (.new H.length,i))) = some v := fun {M i v} hv => peekV (c := e.row) (get_pre g0) hv
 have p0 : ∀ {i : Nat} {v : AV},e.row[i]? = some v → peek B (H ++ [AObj.var e.row]) (.ptr (some (.new H.length,i))) = some v := fun {i v} hv => peekV (c := e.row) g0 hv
 rw [peekVN g0 (n := 4) rfl,ob_some]
 refine f63_ok (tyK_bool (J64_3_in ?_))
 rw [pBool_bool,hr,bs_true]
 refine J64_2_in (op_fldP ?_)
 rw [p0 (v := .bool e.del) (i := 0 + 2) rfl,ob_some]
 have es : IntKind.u64.wrap e.seq = ((e.seq.toNat : Nat) : Int) := by
  simp only [IntKind.wrap,IntKind.bits,IntKind.signed]
  simp; omega
 have ps := putF_small e.seq.toNat (by omega)
 have pk := putF_small e.key.length (by omega)
 refine tyK_bool (J64_0_in ?_)
 rw [pBool_bool]
 by_cases hd : e.del = true
 ·rw [if_pos hd]
  refine op_fldP ?_
  rw [p0 (v := .int .i64 e.seq) (i := 0 + 3) rfl,ob_some,pInt_int]
  refine op_fldP ?_
  rw [p0 (v := .str e.key) (i := 0 + 0) rfl,ob_some,pStr_str,show layParts [(.int .u8 0)] [(0,1,.int .u8 1)] = some (brw 1) from rfl,ob_some]
  refine slK_in (op_toStr (s := [1]) (sl_row1 rfl) ?_)
  rw [es]
  refine f66_ok (by omega) (by simp) ?_
  rw [pStr_str]
  refine ⟨?_,op_fldP rfl,?_⟩
  ·rw [p (v := .str e.key) (i := 0 + 0) rfl,ob_some,pStr_str]
  refine f65_ok (by simp; omega) (by omega) ?_
  rw [pStr_str]
  refine tidy_drop2 hn hH low_str ?_
  have : entB e = [1] ++ putF e.seq.toNat ++ putF e.key.length ++ e.key := by simp [entB,hd]
  rw [← this]; exact h
 ·rw [if_neg hd]
  have hd0 : e.del = false := by simpa using hd
  refine J64_1_in (op_fldP ?_)
  rw [p0 (v := .int .i64 e.seq) (i := 0 + 3) rfl,ob_some,pInt_int]
  refine op_fldP ?_
  rw [p0 (v := .str e.key) (i := 0 + 0) rfl,ob_some,pStr_str]
  refine op_fldP ?_
  rw [p0 (v := .str e.value) (i := 0 + 1) rfl,ob_some,pStr_str,show layParts [(.int .u8 0)] [(0,1,.int .u8 0)] = some (brw 0) from rfl,ob_some]
  refine slK_in (op_toStr (s := [0]) (sl_row1 rfl) ?_)
  rw [es]
  refine f66_ok (by omega) (by simp) ?_
  rw [pStr_str]
  refine ⟨?_,op_fldP rfl,?_,op_fldP rfl,?_⟩
  ·rw [p (v := .str e.value) (i := 0 + 1) rfl,ob_some,pStr_str]
  ·rw [p (v := .str e.key) (i := 0 + 0) rfl,ob_some,pStr_str]
  refine f65_ok (by simp; omega) (by omega) ?_
  rw [pStr_str]
  refine ⟨?_,op_fldP rfl,?_⟩
  ·rw [p (v := .str e.value) (i := 0 + 1) rfl,ob_some,pStr_str]
  refine f65_ok (by simp; omega) (by omega) ?_
  rw [pStr_str]
  refine tidy_drop2 hn hH low_str ?_
  have : entB e = [0] ++ putF e.seq.toNat ++ putF e.key.length ++ e.key ++ putF e.value.length ++ e.value := by simp [entB,hd0]
  rw [← this]; exact h
theorem f31_loop {l : List Ent} {ev : AV} {s : List UInt8} (he : Sl B H 4 ev (l.map Ent.row)) (hsz : l.length ≤ 1000000)
  (h1 : entsW l = false → Q (.tuple [.str (s ++ entsB l),.bool true]) H) (h2 : entsW l = true → ∀ s',Q (.tuple [.str s',.bool false]) H) :
  ∀ (rest : List Ent) (i : Nat) (acc : List UInt8),l.drop i = rest → acc ++ entsB rest = s ++ entsB l → entsW rest = entsW l → acc.length ≤ 800000010000 + 2000 * i → L31_4 B (Cl B) n (.str acc) ev (i : Int) H Q
 | [],i,acc,hd,ha,hw,hal => by
  have hl := drop_nil hd
  have hlen : lenOf ev = some l.length := by have := he.len; rwa [List.length_map] at this
  refine L31_4_in (ACall.cle B table) ?_
  rw [hlen,ob_some]
  refine bs_dec (fun h1 => by omega) fun _ => J31_5_in (tidy_none ?_)
  have := h1 hw.symm
  rw [← ha] at this
  simpa [entsB] using this
 | e :: r,i,acc,hd,ha,hw,hal => by
  obtain ⟨hget,hlt,hd'⟩ := drop_cons hd
  have hlen : lenOf ev = some l.length := by have := he.len; rwa [List.length_map] at this
  have hrow : (l.map Ent.row)[i]? = some e.row := by simp [hget]
  refine L31_4_in (ACall.cle B table) ?_
  rw [hlen,ob_some]
  refine bs_dec (fun _ => J31_3_in (op_idx he (by simpa using hlt) ?_)) fun h1 => absurd (by omega) h1
  rw [(he.el hrow).peekN (n := 4) rfl,ob_some]
  refine f63_ok (tyK_bool (J31_1_in ?_))
  rw [pBool_bool]
  refine bs_iff.2 ⟨fun hr => J31_0_in (op_idx he (by simpa using hlt) ?_),fun hr => tidy_none (h2 ?_ _)⟩
  ·rw [(he.el hrow).peekN (n := 4) rfl,ob_some]
   refine f64_ok hr ?_
   rw [pStr_str,pStr_str]
   have hel := @entB_len e
   rw [if_pos hr] at hel
   refine sb_add (by simp [maxInt]; omega) (J31_2_in ?_)
   rw [w64 (n := (i : Int) + 1) (by omega)]
   refine f31_loop he hsz h1 h2 r (i + 1) _ hd' ?_ ?_ ?_
   ·rw [← ha]; simp [entsB,hr]
   ·rw [← hw]; simp [entsW,hr]
   ·rw [List.length_append]; omega
  ·rw [← hw]; simp [entsW,hr]
theorem f31_ok {l : List Ent} {ev : AV} {s : List UInt8} (he : Sl B H 4 ev (l.map Ent.row)) (hsz : l.length ≤ 1000000) (hs : s.length ≤ 800000000000)
  (h1 : entsW l = false → Q (.tuple [.str (s ++ putF l.length ++ entsB l),.bool true]) H) (h2 : entsW l = true → ∀ s',Q (.tuple [.str s',.bool false]) H) : Cl B 31 [.str s,ev] H Q := by
 refine f31_in fun n cl hn hcl hH hA => J31_6_in ?_
 subst hcl
 have hlen : lenOf ev = some l.length := by have := he.len; rwa [List.length_map] at this
 have hp := putF_small l.length (by omega)
 rw [hlen,ob_some]
 refine f34_ok (by omega) (by omega) ?_
 rw [pStr_str]
 exact f31_loop (s := s ++ putF l.length) he hsz h1 h2 l 0 _ rfl (by simp) rfl (by simp; omega)
end
end Go.Am
namespace Go.Am
open Go
section
variable {B : Base} {n : Nat} {H G : Heap} {Q : AV → Heap → Prop} {s : List UInt8}
theorem op_arr32 {p : AV} {d : List UInt8} {K : AV → Heap → Prop} (h : El B G p (dg d)) (hd : d.length = 32) (hk : ∀ v,Bs B G v d → K v G) : aop B E0 G K (.sliceA 32 1 (.const p) none none) := by
 obtain ⟨o,i,rfl,hc⟩ := h
 rw [dg_len,hd] at hc
 refine hk (.slice o i 32 1 (some 32)) ⟨brws_len _,.inr ⟨o,i,some 32,by rw [List.length_map,hd],?_⟩⟩
 rw [List.length_map,hd]
 exact hc
theorem tuple_sb {a : List UInt8} {b : Bool} {K : AV → AV → Prop} (h : K (.str a) (.bool b)) : pLive (.tuple [.str a,.bool b]) fun v => aop B E0 G (fun v1 _ => aop B E0 G (fun v2 _ => K v1 v2) (.extract (some .bool) 1 (.const v))) (.extract (some .str) 0 (.const v)) :=
 live_tuple (op_extS rfl (op_extB (b := b) rfl h))
theorem low_sb {a : List UInt8} {b : Bool} : Low n (.tuple [.str a,.bool b]) := by simp [Low,RV,RVL]
theorem f95_ok {l : List (List UInt8)} {v : AV} (hv : PathR B H v l) (hl : l.length ≤ 100) (hd : ∀ d,d ∈ l → d.length = 32) (hs : s.length ≤ 800000000000) (h : Q (.tuple [.str (s ++ pathB l),.bool (decide ((l.length : Int) ≤ 64))]) H) : Cl B 95 [.str s,v] H Q := by
 refine f95_in fun n cl hn hcl hH hA => ?_
 subst hcl
 have hlen : lenOf v = some l.length := by have := Sl.len hv; rwa [List.length_map] at this
 have hp := putF_small l.length (by omega)
 rw [hlen,ob_some]
 refine f34_ok (by omega) (by omega) ?_
 rw [pStr_str,Int.toNat_natCast]
 have go : ∀ (rest : List (List UInt8)) (i : Nat) (acc : List UInt8),l.drop i = rest → acc ++ rest.flatMap (fun d => d) = s ++ pathB l → acc.length ≤ 800000000010 + 32 * i → L95_0 B (Cl B) n (.str acc) v (i : Int) H Q := fun rest => by
  induction rest with
  | nil =>
   intro i acc h1 h2 h3
   have hi := drop_nil h1
   refine L95_0_in (ACall.cle B table) ?_
   rw [hlen,ob_some]
   refine bs_no (decide_eq_false (by omega)) (J95_1_in ?_)
   rw [hlen,ob_some]
   refine ib_le (tidy_none ?_)
   simp only [List.flatMap_nil,List.append_nil] at h2
   rw [h2]; exact h
  | cons d rest ih =>
   intro i acc h1 h2 h3
   obtain ⟨g1,g2,g3⟩ := drop_cons h1
   have h32 := hd d (List.mem_of_getElem? g1)
   have hr : (l.map dg)[i]? = some (dg d) := by simp [g1]
   refine L95_0_in (ACall.cle B table) ?_
   rw [hlen,ob_some]
   refine bs_yes (decide_eq_true (by omega)) (op_idx hv (by simpa using g2) (op_arr32 (Sl.el hv hr) h32 fun w hw => op_toStr hw ?_))
   rw [pStr_str,pStr_str]
   refine sb_add (by simp only [maxInt]; omega) ?_
   rw [w64 (n := (i : Int) + 1) (by omega)]
   refine ih (i + 1) (acc ++ d) g3 ?_ (by rw [List.length_append]; omega)
   rw [← h2,List.flatMap_cons,List.append_assoc]
 exact go l 0 _ rfl (by unfold pathB; rw [List.append_assoc]) (by rw [List.length_append]; omega)
theorem f94_ok {o : Opn} {c : List AV} (hc : OpR B H c o) (ho : OnOk o) (hs : s.length ≤ 700000000000) (h1 : opW o = true → ∀ s',s'.length ≤ s.length + 1100000 → Q (.tuple [.str s',.bool false]) H) (h2 : opW o = false → Q (.tuple [.str (s ++ opB o),.bool true]) H) : Cl B 94 [.str s,.agg c] H Q := by
 obtain ⟨lv,pv,rfl,hl,hp⟩ := hc
 obtain ⟨a,t,l⟩ := o
 obtain ⟨o1,o2,o3,o4⟩ := ho
 simp only at o1 o2 o3 o4 hl hp
 refine f94_in fun n cl hn hcl hH hA => op_box rfl rfl (op_fldP ?_)
 subst hcl
 have g0 : (H ++ [AObj.var [.int .i64 a,lv,pv]])[H.length]? = some (.var [.int .i64 a,lv,pv]) := by rw [get_app0]; rfl
 have hl' : Bs B (H ++ [AObj.var [.int .i64 a,lv,pv]]) lv t := hl.pre
 have hp' : PathR B (H ++ [AObj.var [.int .i64 a,lv,pv]]) pv l := hp.pre
 have fin : ∀ (s' : List UInt8) (b : Bool),Q (.tuple [.str s',.bool b]) H → tidyK n Q (.tuple [.str s',.bool b]) (H ++ [AObj.var [.int .i64 a,lv,pv]]) := fun s' b h => tidy_drop hn hH low_sb h
 generalize H ++ [AObj.var [.int .i64 a,lv,pv]] = G at g0 hl' hp' fin ⊢
 rw [peekV g0 (v := .int .i64 a) rfl,ob_some]
 refine int_i (f33_ok ?_)
 rw [pBool_bool]
 refine bs_iff.2 ⟨fun hn => op_fldP ?_,fun hn => fin _ _ (h1 (by simp [opW,hn]) _ (by omega))⟩
 have ha : 0 ≤ a := by simp only [numOk,Bool.and_eq_true,decide_eq_true_eq] at hn; exact hn.1
 rw [peekV g0 (v := .int .i64 a) rfl,ob_some]
 refine int_i (op_fldP ?_)
 rw [peekV g0 (v := lv) rfl,ob_some]
 refine Sl.live hl _ (op_toStr hl' (op_fldP ?_))
 rw [peekV g0 (v := pv) rfl,ob_some]
 have pa := putF_small a.toNat (by omega)
 have pt := putF_small t.length (by omega)
 refine Sl.live hp _ (f34_ok (by omega) (by omega) ?_)
 rw [pStr_str]
 refine ⟨by rw [peekV g0 (v := pv) rfl,ob_some]; exact Sl.live hp _ rfl,op_fldP rfl,op_toStr hl' rfl,by rw [peekV g0 (v := lv) rfl,ob_some]; exact Sl.live hl _ rfl,op_fldP rfl,?_⟩
 refine f32_ok (by rw [List.length_append]; omega) (by omega) ?_
 rw [pStr_str]
 refine ⟨by rw [peekV g0 (v := pv) rfl,ob_some]; exact Sl.live hp _ rfl,op_fldP rfl,?_⟩
 refine f95_ok hp' o3 o4 (by simp only [List.length_append]; omega) (tuple_sb ?_)
 have hw : opW ⟨a,t,l⟩ = !decide ((l.length : Int) ≤ 64) := by simp [opW,hn]
 by_cases h64 : (l.length : Int) ≤ 64
 ·rw [decide_eq_true h64]
  have := h2 (by rw [hw,decide_eq_true h64]; rfl)
  refine fin _ _ ?_
  simpa [opB] using this
 ·rw [decide_eq_false h64]
  have hpl := pathB_le o3 o4
  exact fin _ _ (h1 (by rw [hw,decide_eq_false h64]; rfl) _ (by simp only [List.length_append]; omega))
theorem f74_ok {p : Pnt} {c : List AV} (hc : PtR B H c p) (ho : PtOk p) (hs : s.length ≤ 600000000000) (h1 : ptW p = true → ∀ s',Q (.tuple [.str s',.bool false]) H) (h2 : ptW p = false → Q (.tuple [.str (s ++ ptB p),.bool true]) H) : Cl B 74 [.str s,.agg c] H Q := by
 obtain ⟨ca,cb,rfl,hca,hcb⟩ := hc
 obtain ⟨bt,oa,ob'⟩ := p
 obtain ⟨oka,okb⟩ := ho
 simp only at hca hcb oka okb
 have la : ca.length = 3 := by obtain ⟨_,_,rfl,_⟩ := hca; rfl
 have lb : cb.length = 3 := by obtain ⟨_,_,rfl,_⟩ := hcb; rfl
 refine f74_in fun n cl hn hcl hH hA => op_box (n := 7) rfl (by simp [la,lb]) ?_
 subst hcl
 have g0 : (H ++ [AObj.var (.bool bt :: (ca ++ cb))])[H.length]? = some (.var (.bool bt :: (ca ++ cb))) := by rw [get_app0]; rfl
 have hca' : ∀ {L : Heap},OpR B (H ++ [AObj.var (.bool bt :: (ca ++ cb))] ++ L) ca oa := fun {L} => hca.pre.pre
 have hcb' : ∀ {L : Heap},OpR B (H ++ [AObj.var (.bool bt :: (ca ++ cb))] ++ L) cb ob' := fun {L} => hcb.pre.pre
 have fin : ∀ (L : Heap) (s' : List UInt8) (b : Bool),Q (.tuple [.str s',.bool b]) H → tidyK n Q (.tuple [.str s',.bool b]) (H ++ [AObj.var (.bool bt :: (ca ++ cb))] ++ L) := fun L s' b h => by rw [List.append_assoc]; exact tidy_drop hn hH low_sb h
 generalize H ++ [AObj.var (.bool bt :: (ca ++ cb))] = G at g0 hca' hcb' fin ⊢
 have oal := opB_le oka
 refine J74_5_in (op_fldP ?_)
 rw [peekV g0 (v := .bool bt) rfl,ob_some]
 refine tyK_bool (op_notB (J74_1_in ?_))
 rw [pBool_bool]
 cases bt with
 | false =>
  rw [if_pos (show (!false) = true from rfl),show layParts [(.int .u8 0)] [(0,1,.int .u8 0)] = some (brw 0) from rfl,ob_some]
  refine slK_in (op_toStr (s := [0]) (sl_row1 rfl) ?_)
  have g1 : (G ++ [AObj.arr (brw 0)])[H.length]? = some (.var (.bool false :: (ca ++ cb))) := get_pre g0
  rw [pStr_str]
  refine sb_add (by simp only [maxInt,List.length_singleton]; omega) (op_fldP ?_)
  rw [peekN_mid (i := 0 + 1) (m := 3) (a := [.bool false]) (c := ca) (d := cb) g1 rfl la,ob_some]
  obtain ⟨lv,pv,rfl,hlb,hpb⟩ := hcb
  have hlb' : Bs B (G ++ [.arr (brw 0)]) lv ob'.leaf := by obtain ⟨lv2,pv2,e,x,y⟩ := hcb' (L := [.arr (brw 0)]); cases e; exact x
  have hpb' : PathR B (G ++ [.arr (brw 0)]) pv ob'.path := by obtain ⟨lv2,pv2,e,x,y⟩ := hcb' (L := [.arr (brw 0)]); cases e; exact y
  have q0 : ∀ {i : Nat} {v : AV},(AV.bool false :: (ca ++ [.int .i64 ob'.at_,lv,pv]))[i]? = some v → peek B (G ++ [AObj.arr (brw 0)]) (.ptr (some (.new H.length,i))) = some v := fun h => peekV g1 h
  have c4 : (AV.bool false :: (ca ++ [.int .i64 ob'.at_,lv,pv]))[0 + 4 + 0]? = some (.int .i64 ob'.at_) ∧ (AV.bool false :: (ca ++ [.int .i64 ob'.at_,lv,pv]))[0 + 4 + 1]? = some lv ∧ (AV.bool false :: (ca ++ [.int .i64 ob'.at_,lv,pv]))[0 + 4 + 2]? = some pv := by
   obtain ⟨x,y,rfl,_⟩ := hca
   exact ⟨rfl,rfl,rfl⟩
  have lleaf : lenOf lv = some ob'.leaf.length := hlb.len
  have lpath : lenOf pv = some ob'.path.length := by have := Sl.len hpb; rwa [List.length_map] at this
  refine f94_ok hca' oka (by simp only [List.length_append,List.length_singleton]; omega) (fun hw s' _ => tuple_sb (J74_0_in (guard_split (fun e => by cases e) fun _ => fin _ _ _ (h1 (by simp [ptW,hw]) _)))) fun hw => tuple_sb (J74_0_in (guard_split (fun _ => op_fldP (op_fldP ?_)) fun e => by cases e))
  rw [q0 c4.1,ob_some]
  refine int_i (ib_eq (guard_split (fun e1 => op_fldP (op_fldP ?_)) fun e1 => fin _ _ _ (h1 ?_ _)))
  ·rw [q0 c4.2.1,ob_some]
   refine Sl.live hlb _ ?_
   rw [lleaf,ob_some]
   refine ib_eq (guard_split (fun e2 => op_fldP (op_fldP ?_)) fun e2 => fin _ _ _ (h1 ?_ _))
   ·rw [q0 c4.2.2,ob_some]
    refine Sl.live hpb _ ?_
    rw [lpath,ob_some]
    have e1 : ob'.at_ = 0 := of_decide_eq_true e1
    have e2 : ob'.leaf = [] := List.length_eq_zero_iff.1 (by have := of_decide_eq_true e2; omega)
    refine ib_eq ?_
    by_cases e3 : ob'.path = []
    ·rw [decide_eq_true (by rw [e3]; rfl)]
     refine fin _ _ _ ?_
     have := h2 (by simp [ptW,hw,noneB,e1,e2,e3])
     simpa [ptB] using this
    ·rw [decide_eq_false (by intro h; exact e3 (List.length_eq_zero_iff.1 (by omega)))]
     exact fin _ _ _ (h1 (by simp [ptW,hw,noneB,e3]) _)
   ·have e2 := of_decide_eq_false e2
    have : ob'.leaf ≠ [] := fun e => e2 (by rw [e]; rfl)
    simp [ptW,noneB,this]
  ·have e1 := of_decide_eq_false e1
   simp [ptW,noneB,e1]
 | true =>
  rw [if_neg (by decide)]
  refine J74_4_in ?_
  rw [show layParts [(.int .u8 0)] [(0,1,.int .u8 1)] = some (brw 1) from rfl,ob_some]
  refine slK_in (op_toStr (s := [1]) (sl_row1 rfl) ?_)
  have g1 : (G ++ [AObj.arr (brw 1)])[H.length]? = some (.var (.bool true :: (ca ++ cb))) := get_pre g0
  rw [pStr_str]
  refine sb_add (by simp only [maxInt,List.length_singleton]; omega) (op_fldP ?_)
  rw [peekN_mid (i := 0 + 1) (m := 3) (a := [.bool true]) (c := ca) (d := cb) g1 rfl la,ob_some]
  have p2 : peekN B (G ++ [AObj.arr (brw 1)]) 3 (.ptr (some (.new H.length,0 + 4))) = some cb := peekN_mid (a := .bool true :: ca) (d := []) (by rw [List.append_nil]; exact g1) (by simp [la]) lb
  refine f94_ok hca' oka (by simp only [List.length_append,List.length_singleton]; omega) (fun hw s' hsl => tuple_sb (J74_3_in (op_fldP ?_))) fun hw => tuple_sb (J74_3_in (op_fldP ?_))
  ·rw [p2,ob_some]
   simp only [List.length_append,List.length_singleton] at hsl
   have bad : ∀ (u : List UInt8) (b : Bool),J74_2 B (Cl B) n (.bool false) (.str u) (.bool b) (G ++ [AObj.arr (brw 1)]) Q := fun u b => J74_2_in (guard_split (fun e => by cases e) fun _ => fin _ _ _ (h1 (by simp [ptW,hw]) _))
   exact f94_ok hcb' okb (by omega) (fun _ u _ => tuple_sb (bad u false)) fun _ => tuple_sb (bad _ true)
  ·rw [p2,ob_some]
   refine f94_ok hcb' okb (by simp only [List.length_append,List.length_singleton]; omega) (fun hw2 s' _ => tuple_sb (J74_2_in (guard_split (fun _ => fin _ _ _ (h1 (by simp [ptW,hw,hw2]) _)) fun e => by cases e))) fun hw2 => tuple_sb (J74_2_in (guard_split (fun _ => fin _ _ _ ?_) fun e => by cases e))
   have := h2 (by simp [ptW,hw,hw2])
   simpa [ptB] using this
end
end Go.Am
namespace Go.Am
open Go
section
variable {B : Base} {n : Nat} {H G : Heap} {Q : AV → Heap → Prop} {s : List UInt8}
theorem f75_ok {x : Spn} {c : List AV} (hc : SnR B H c x) (ho : SnOk x) (hs : s.length ≤ 600000000000) (h1 : spW x = true → ∀ s',Q (.tuple [.str s',.bool false]) H) (h2 : spW x = false → Q (.tuple [.str (s ++ spB x),.bool true]) H) : Cl B 75 [.str s,.agg c] H Q := by
 obtain ⟨lv,pv,rfl,⟨us,hus,hfu⟩,hp⟩ := hc
 obtain ⟨a,ls,l⟩ := x
 obtain ⟨o1,o2,o3,o4,o5⟩ := ho
 simp only at o1 o2 o3 o4 o5 hfu hp
 refine f75_in fun n cl hn hcl hH hA => op_box rfl rfl (J75_7_in (op_fldP ?_))
 subst hcl
 have g0 : (H ++ [AObj.var [.int .i64 a,lv,pv]])[H.length]? = some (.var [.int .i64 a,lv,pv]) := by rw [get_app0]; rfl
 have hus' : Sl B (H ++ [AObj.var [.int .i64 a,lv,pv]]) 1 lv (us.map fun u => [u]) := hus.pre
 have hfu' : F2 (Bs B (H ++ [AObj.var [.int .i64 a,lv,pv]])) us ls := hfu.mono fun _ _ h => h.pre
 have hp' : PathR B (H ++ [AObj.var [.int .i64 a,lv,pv]]) pv l := hp.pre
 have fin : ∀ (s' : List UInt8) (b : Bool),Q (.tuple [.str s',.bool b]) H → tidyK n Q (.tuple [.str s',.bool b]) (H ++ [AObj.var [.int .i64 a,lv,pv]]) := fun s' b h => tidy_drop hn hH low_sb h
 generalize H ++ [AObj.var [.int .i64 a,lv,pv]] = G at g0 hus' hfu' hp' fin ⊢
 have hlen : lenOf lv = some ls.length := by rw [hus.len,List.length_map,hfu.1]
 have q1 : ∀ {i : Nat} {v : AV},([.int .i64 a,lv,pv] : List AV)[i]? = some v → peek B G (.ptr (some (.new H.length,i))) = some v := fun h => peekV g0 h
 rw [q1 (v := .int .i64 a) rfl,ob_some]
 have bad : spW ⟨a,ls,l⟩ = true → J75_0 B (Cl B) n s (.ptr (some (.new H.length,0))) (.bool true) G Q := fun hw => J75_0_in (by rw [pBool_bool,if_pos rfl]; exact fin _ _ (h1 hw _))
 refine int_i (f33_ok ?_)
 rw [pBool_bool]
 refine bs_iff.2 ⟨fun hn => op_fldP ?_,fun hn => bad (by simp [spW,hn])⟩
 have ha : 0 ≤ a := by simp only [numOk,Bool.and_eq_true,decide_eq_true_eq] at hn; exact hn.1
 rw [q1 (v := lv) rfl,ob_some]
 refine hus.live _ ?_
 rw [hlen,ob_some]
 by_cases h64 : (ls.length : Int) > 64
 ·exact ib_gt_yes h64 (bad (by simp [spW]; omega))
 refine ib_gt_no h64 (J75_0_in ?_)
 rw [pBool_bool,if_neg (by decide)]
 refine J75_6_in (op_fldP ?_)
 rw [q1 (v := .int .i64 a) rfl,ob_some]
 refine int_i (op_fldP ?_)
 rw [q1 (v := lv) rfl,ob_some]
 refine hus.live _ ?_
 have pa := putF_small a.toNat (by omega)
 have pt := putF_small ls.length (by omega)
 rw [hlen,ob_some]
 refine f34_ok (by omega) (by omega) ?_
 rw [pStr_str]
 refine ⟨rfl,by rw [q1 (v := lv) rfl,ob_some]; exact hus.live _ rfl,op_fldP rfl,?_⟩
 refine f34_ok (by rw [List.length_append]; omega) (by omega) ?_
 rw [pStr_str,Int.toNat_natCast]
 refine J75_5_in ?_
 have go : ∀ (rest : List (List UInt8)) (i : Nat) (acc : List UInt8),ls.drop i = rest → acc ++ rest.flatMap leafB = s ++ putF a.toNat ++ putF ls.length ++ ls.flatMap leafB → acc.length + 1000020 * rest.length ≤ 700000000000 → L75_3 B (Cl B) n acc (.ptr (some (.new H.length,0))) (i : Int) G Q := fun rest => by
  induction rest with
  | nil =>
   intro i acc e1 e2 e3
   have hi := drop_nil e1
   refine L75_3_in (ACall.cle B table) (op_fldP ?_)
   rw [q1 (v := lv) rfl,ob_some]
   refine hus.live _ ?_
   rw [hlen,ob_some]
   refine bs_no (decide_eq_false (by omega)) (J75_4_in (op_fldP ?_))
   rw [q1 (v := pv) rfl,ob_some]
   simp only [List.flatMap_nil,List.append_nil,List.length_nil] at e2 e3
   refine Sl.live hp _ (f95_ok hp' o4 o5 (by omega) (tuple_sb ?_))
   have hw : spW ⟨a,ls,l⟩ = !decide ((l.length : Int) ≤ 64) := by simp [spW,hn]; omega
   by_cases hl : (l.length : Int) ≤ 64
   ·rw [decide_eq_true hl]
    have := h2 (by rw [hw,decide_eq_true hl]; rfl)
    refine fin _ _ ?_
    rw [e2]
    simpa [spB] using this
   ·rw [decide_eq_false hl]
    exact fin _ _ (h1 (by rw [hw,decide_eq_false hl]; rfl) _)
  | cons t rest ih =>
   intro i acc e1 e2 e3
   obtain ⟨g1,g2,g3⟩ := drop_cons e1
   obtain ⟨u,hu,hbt⟩ := at_some hfu' g1
   have hru : (us.map fun u => [u])[i]? = some [u] := by simp [hu]
   have ht := o3 t (List.mem_of_getElem? g1)
   have ptl := putF_small t.length (by omega)
   simp only [List.length_cons] at e3
   refine L75_3_in (ACall.cle B table) (op_fldP ?_)
   rw [q1 (v := lv) rfl,ob_some]
   refine hus.live _ ?_
   rw [hlen,ob_some]
   refine bs_yes (decide_eq_true (by omega)) (J75_2_in (op_fldP ?_))
   rw [q1 (v := lv) rfl,ob_some]
   refine hus.live _ (op_idx hus' (in_some hru) ?_)
   rw [(hus'.el hru).peek0 (v := u) rfl,ob_some]
   refine Sl.live hbt _ (op_toStr hbt (f32_ok (by omega) ht ?_))
   rw [pStr_str]
   refine J75_1_in ?_
   rw [w64 (n := (i : Int) + 1) (by omega)]
   refine ih (i + 1) _ g3 ?_ (by simp only [List.length_append]; omega)
   rw [← e2,List.flatMap_cons]
   simp [leafB]
 exact go ls 0 _ rfl rfl (by simp only [List.length_append]; omega)
def onlyR (k : Int) (r : Rpl) : Rpl :=
 if k = 1 then rp3 0 r.last 0 else if k = 2 then rq2 r.psum r.pts else if k = 3 then rq3 r.ssum r.sns else if k = 4 then rq5 r.epoch r.sum []
 else if k = 5 then rq5 r.epoch r.sum r.rows else rp3 0 r.last r.epoch
end
end Go.Am
namespace Go.Am
open Go
section
variable {B : Base} {n : Nat} {H G M : Heap} {C : Nat → Option AObj} {Q : AV → Heap → Prop} {s : List UInt8} {x5 x7 x9 : Nat} {c oc : List AV}
abbrev TT : MM → Prop := fun _ => True
abbrev Z45 (H M : Heap) (C : Nat → Option AObj) (x5 x7 x9 : Nat) (c oc : List AV) : Prop := Z16 H M C x5 x7 x9 c oc TT
def BoQ (B : Base) (H : Heap) (k : Int) (r : Rpl) (c : List AV) (s : List UInt8) (Q : AV → Heap → Prop) : Prop :=
 (bodyW k r = true → ∀ s' oc r' L,RpOk r' → (∀ N,RpR B N c r → RpR B N oc r') → Q (.tuple [.str s',.agg oc,.bool false]) (H ++ L)) ∧
 (bodyW k r = false → ∀ oc L,(∀ N,RpR B N c r → RpR B N oc (onlyR k r)) → Q (.tuple [.str (s ++ bodyB k r),.agg oc,.bool true]) (H ++ L))
theorem ret45 {b : Bool} {a : List UInt8} (z : Z45 H M C x5 x7 x9 c oc) (hl : oc.length = 9) (hq : ∀ L,Q (.tuple [.str a,.agg oc,.bool b]) (H ++ L)) :
  ob (peekN B M 9 (pt x9)) fun c25 => (aop B E0 M (fun _ H27 => ob (peekN B H27 9 (pt x7)) fun c28 => tidyK n Q (.tuple [.str a,.agg c28,.bool b]) H27) (.st 9 (.const (pt x7)) (.const (.agg c25)))) := by
 rw [show peekN B M 9 (pt x9) = some oc from peekVN (z.k.cs _ _ z.c3) hl,ob_some]
 refine op_st (c := row3 0 0 0) (vs := oc) rfl hl (z.k.cs _ _ z.c2) (by simp [row3]) ?_
 have k3 := z.k.set z.c2 z.l2 (.var oc)
 rw [putAt_all (by rw [hl]; rfl),show peekN B (M.set x7 (.var oc)) 9 (pt x7) = some oc from peekVN (k3.cs _ _ updC_at) hl,ob_some]
 obtain ⟨L,hL⟩ := k3.pre
 rw [hL]
 exact tidy_none (hq L)
theorem Z16.put2 {x1 x2 x3 : Nat} {c0 cc : List AV} {T : MM → Prop} (hT : Mono T) (z : Z16 G M C x1 x2 x3 c0 cc T) {off : Nat} {vs cc' : List AV} {K : Heap → Prop} (hv : vs.length = 2) (ho : off + 2 ≤ cc.length) (hp : putAt cc off vs = cc')
  (hK : Z16 G (M.set x3 (.var cc')) (updC C x3 (.var cc')) x1 x2 x3 c0 cc' T → K (M.set x3 (.var cc'))) : aop B E0 M (fun _ H => K H) (.st 2 (.const (.ptr (some (.new x3,off)))) (.const (.agg vs))) := by
 refine op_st (c := cc) (vs := vs) rfl hv (z.k.cs _ _ z.c3) ho ?_
 rw [hp]
 exact hK (z.set hT cc')
section
variable {er la ep : Int} {v3 v4 v5 v6 v7 v8 : AV}
theorem bo_pts {pts : List Pnt} {s0 : List UInt8} (z : Z45 H M C x5 x7 x9 (cc9 er la ep v3 v4 v5 v6 v7 v8) oc) (n57 : x5 ≠ x7) (hl : oc.length = 9) (hp : PtsR B H v4 pts) (hok : pts.length ≤ 600 ∧ ∀ p,p ∈ pts → PtOk p)
  (h0 : (!decide ((pts.length : Int) ≤ 512) || pts.any ptW) = true → ∀ s' L,Q (.tuple [.str s',.agg oc,.bool false]) (H ++ L)) (h1 : (!decide ((pts.length : Int) ≤ 512) || pts.any ptW) = false → ∀ L,Q (.tuple [.str (s0 ++ pts.flatMap ptB),.agg oc,.bool true]) (H ++ L)) :
  ∀ (rest : List Pnt) (i : Nat) (acc : List UInt8),pts.drop i = rest → acc ++ rest.flatMap ptB = s0 ++ pts.flatMap ptB → rest.any ptW = pts.any ptW → acc.length + 2100000 * rest.length ≤ 500000000000 → L45_5 B (Cl B) n (.str acc) (pt x5) (pt x7) (pt x9) (i : Int) M Q := by
 have hpM : PtsR B M v4 pts := by obtain ⟨L,hL⟩ := z.k.pre; rw [hL]; exact hp.pre
 obtain ⟨rows,hr,hfr⟩ := hpM
 have hlen : lenOf v4 = some pts.length := by rw [hr.len,hfr.1]
 intro rest
 induction rest with
 | nil =>
  intro i acc e1 e2 e3 e4
  have hi := drop_nil e1
  simp only [List.flatMap_nil,List.append_nil] at e2
  refine L45_5_in (ACall.cle B table) (op_fldP (op_fldP ?_))
  rw [z.p1 (v := v4) (i := 0 + 3 + 1) rfl,ob_some]
  refine hr.live _ ?_
  rw [hlen,ob_some]
  refine bs_no (decide_eq_false (by omega)) (J45_6_in ?_)
  rw [show peekN B M 9 (pt x9) = some oc from peekVN (z.k.cs _ _ z.c3) hl,ob_some]
  refine op_fldP (op_fldP ?_)
  rw [z.p1 (v := v4) (i := 0 + 3 + 1) rfl,ob_some]
  refine hr.live _ ?_
  rw [hlen,ob_some]
  have ha : pts.any ptW = false := by rw [← e3]; rfl
  refine ib_le ?_
  refine op_st (c := row3 0 0 0) (vs := oc) rfl hl (z.k.cs _ _ z.c2) (by simp [row3]) ?_
  have k3 := z.k.set z.c2 z.l2 (.var oc)
  have g5 := k3.cs x5 _ (by rw [updC_ne n57]; exact z.c1)
  rw [putAt_all (by rw [hl]; rfl)]
  refine ⟨ib_le rfl,rfl,by rw [peekV g5 (v := v4) rfl,ob_some]; exact hr.live _ rfl,op_fldP rfl,op_fldP rfl,?_⟩
  rw [show peekN B (M.set x7 (.var oc)) 9 (pt x7) = some oc from peekVN (k3.cs _ _ updC_at) hl,ob_some]
  obtain ⟨L,hL⟩ := k3.pre
  rw [hL]
  refine tidy_none ?_
  by_cases h512 : (pts.length : Int) ≤ 512
  ·rw [decide_eq_true h512]
   have := h1 (by rw [ha,decide_eq_true h512]; rfl) L
   rw [← e2] at this
   exact this
  ·rw [decide_eq_false h512]
   exact h0 (by rw [decide_eq_false h512]; rfl) _ L
 | cons p rest ih =>
  intro i acc e1 e2 e3 e4
  obtain ⟨g1,g2,g3⟩ := drop_cons e1
  obtain ⟨row,hrow,hpr⟩ := at_some hfr g1
  have h7 : row.length = 7 := hr.1 row (List.mem_of_getElem? hrow)
  have hpo := hok.2 p (List.mem_of_getElem? g1)
  simp only [List.length_cons] at e4
  refine L45_5_in (ACall.cle B table) (op_fldP (op_fldP ?_))
  rw [z.p1 (v := v4) (i := 0 + 3 + 1) rfl,ob_some]
  refine hr.live _ ?_
  rw [hlen,ob_some]
  refine bs_yes (decide_eq_true (by omega)) (J45_4_in (op_fldP (op_fldP ?_)))
  rw [z.p1 (v := v4) (i := 0 + 3 + 1) rfl,ob_some]
  refine hr.live _ (op_idx hr (in_some hrow) ?_)
  rw [(hr.el hrow).peekN h7,ob_some]
  have hpl := ptB_le hpo
  refine f74_ok hpr hpo (by omega) (fun hw s' => tuple_sb (J45_2_in ?_)) fun hw => tuple_sb (J45_2_in ?_)
  ·rw [pBool_bool]
   refine bs_no rfl (ret45 z hl (h0 ?_ _))
   have : pts.any ptW = true := by rw [← e3]; simp [hw]
   rw [this,Bool.or_true]
  ·rw [pBool_bool]
   refine bs_yes rfl (J45_3_in ?_)
   rw [w64 (n := (i : Int) + 1) (by have := hok.1; omega)]
   refine ih (i + 1) _ g3 ?_ ?_ (by simp only [List.length_append]; omega)
   ·rw [← e2,List.flatMap_cons,List.append_assoc]
   ·rw [← e3]; simp [hw]
theorem bo_sns {sns : List Spn} {s0 : List UInt8} (z : Z45 H M C x5 x7 x9 (cc9 er la ep v3 v4 v5 v6 v7 v8) oc) (n57 : x5 ≠ x7) (hl : oc.length = 9) (hp : SnsR B H v6 sns) (hok : sns.length ≤ 600 ∧ ∀ p,p ∈ sns → SnOk p)
  (h0 : (!decide ((sns.length : Int) ≤ 512) || sns.any spW) = true → ∀ s' L,Q (.tuple [.str s',.agg oc,.bool false]) (H ++ L)) (h1 : (!decide ((sns.length : Int) ≤ 512) || sns.any spW) = false → ∀ L,Q (.tuple [.str (s0 ++ sns.flatMap spB),.agg oc,.bool true]) (H ++ L)) :
  ∀ (rest : List Spn) (i : Nat) (acc : List UInt8),sns.drop i = rest → acc ++ rest.flatMap spB = s0 ++ sns.flatMap spB → rest.any spW = sns.any spW → acc.length + 110000000 * rest.length ≤ 500000000000 → L45_12 B (Cl B) n (.str acc) (pt x5) (pt x7) (pt x9) (i : Int) M Q := by
 have hpM : SnsR B M v6 sns := by obtain ⟨L,hL⟩ := z.k.pre; rw [hL]; exact hp.pre
 obtain ⟨rows,hr,hfr⟩ := hpM
 have hlen : lenOf v6 = some sns.length := by rw [hr.len,hfr.1]
 intro rest
 induction rest with
 | nil =>
  intro i acc e1 e2 e3 e4
  have hi := drop_nil e1
  simp only [List.flatMap_nil,List.append_nil] at e2
  refine L45_12_in (ACall.cle B table) (op_fldP (op_fldP ?_))
  rw [z.p1 (v := v6) (i := 0 + 5 + 1) rfl,ob_some]
  refine hr.live _ ?_
  rw [hlen,ob_some]
  refine bs_no (decide_eq_false (by omega)) (J45_13_in ?_)
  rw [show peekN B M 9 (pt x9) = some oc from peekVN (z.k.cs _ _ z.c3) hl,ob_some]
  refine op_fldP (op_fldP ?_)
  rw [z.p1 (v := v6) (i := 0 + 5 + 1) rfl,ob_some]
  refine hr.live _ ?_
  rw [hlen,ob_some]
  have ha : sns.any spW = false := by rw [← e3]; rfl
  refine ib_le ?_
  refine op_st (c := row3 0 0 0) (vs := oc) rfl hl (z.k.cs _ _ z.c2) (by simp [row3]) ?_
  have k3 := z.k.set z.c2 z.l2 (.var oc)
  have g5 := k3.cs x5 _ (by rw [updC_ne n57]; exact z.c1)
  rw [putAt_all (by rw [hl]; rfl)]
  refine ⟨ib_le rfl,rfl,by rw [peekV g5 (v := v6) rfl,ob_some]; exact hr.live _ rfl,op_fldP rfl,op_fldP rfl,?_⟩
  rw [show peekN B (M.set x7 (.var oc)) 9 (pt x7) = some oc from peekVN (k3.cs _ _ updC_at) hl,ob_some]
  obtain ⟨L,hL⟩ := k3.pre
  rw [hL]
  refine tidy_none ?_
  by_cases h512 : (sns.length : Int) ≤ 512
  ·rw [decide_eq_true h512]
   have := h1 (by rw [ha,decide_eq_true h512]; rfl) L
   rw [← e2] at this
   exact this
  ·rw [decide_eq_false h512]
   exact h0 (by rw [decide_eq_false h512]; rfl) _ L
 | cons p rest ih =>
  intro i acc e1 e2 e3 e4
  obtain ⟨g1,g2,g3⟩ := drop_cons e1
  obtain ⟨row,hrow,hpr⟩ := at_some hfr g1
  have h7 : row.length = 3 := hr.1 row (List.mem_of_getElem? hrow)
  have hpo := hok.2 p (List.mem_of_getElem? g1)
  simp only [List.length_cons] at e4
  refine L45_12_in (ACall.cle B table) (op_fldP (op_fldP ?_))
  rw [z.p1 (v := v6) (i := 0 + 5 + 1) rfl,ob_some]
  refine hr.live _ ?_
  rw [hlen,ob_some]
  refine bs_yes (decide_eq_true (by omega)) (J45_11_in (op_fldP (op_fldP ?_)))
  rw [z.p1 (v := v6) (i := 0 + 5 + 1) rfl,ob_some]
  refine hr.live _ (op_idx hr (in_some hrow) ?_)
  rw [(hr.el hrow).peekN h7,ob_some]
  have hpl := spB_le hpo
  refine f75_ok hpr hpo (by omega) (fun hw s' => tuple_sb (J45_9_in ?_)) fun hw => tuple_sb (J45_9_in ?_)
  ·rw [pBool_bool]
   refine bs_no rfl (ret45 z hl (h0 ?_ _))
   have : sns.any spW = true := by rw [← e3]; simp [hw]
   rw [this,Bool.or_true]
  ·rw [pBool_bool]
   refine bs_yes rfl (J45_10_in ?_)
   rw [w64 (n := (i : Int) + 1) (by have := hok.1; omega)]
   refine ih (i + 1) _ g3 ?_ ?_ (by simp only [List.length_append]; omega)
   ·rw [← e2,List.flatMap_cons,List.append_assoc]
   ·rw [← e3]; simp [hw]
theorem bo_rws {rws : List (List Ent)} {s0 : List UInt8} (z : Z45 H M C x5 x7 x9 (cc9 er la ep v3 v4 v5 v6 v7 v8) oc) (n57 : x5 ≠ x7) (hl : oc.length = 9) (hp : RowsR B H v8 rws) (hok : rws.length ≤ 600 ∧ ∀ l,l ∈ rws → l.length ≤ 100)
  (h0 : (!decide ((rws.length : Int) ≤ 512) || rws.any rowW) = true → ∀ s' L,Q (.tuple [.str s',.agg oc,.bool false]) (H ++ L)) (h1 : (!decide ((rws.length : Int) ≤ 512) || rws.any rowW) = false → ∀ L,Q (.tuple [.str (s0 ++ rws.flatMap rowB),.agg oc,.bool true]) (H ++ L)) :
  ∀ (rest : List (List Ent)) (i : Nat) (acc : List UInt8),rws.drop i = rest → acc ++ rest.flatMap rowB = s0 ++ rws.flatMap rowB → rest.any rowW = rws.any rowW → acc.length + 220000 * rest.length ≤ 500000000000 → L45_19 B (Cl B) n (.str acc) (pt x5) (pt x7) (pt x9) (i : Int) M Q := by
 have hpM : RowsR B M v8 rws := by obtain ⟨L,hL⟩ := z.k.pre; rw [hL]; exact hp.pre
 obtain ⟨us,hr,hfr⟩ := hpM
 have hlen : lenOf v8 = some rws.length := by rw [hr.len,List.length_map,hfr.1]
 intro rest
 induction rest with
 | nil =>
  intro i acc e1 e2 e3 e4
  have hi := drop_nil e1
  simp only [List.flatMap_nil,List.append_nil] at e2
  refine L45_19_in (ACall.cle B table) (op_fldP ?_)
  rw [z.p1 (v := v8) (i := 0 + 8) rfl,ob_some]
  refine hr.live _ ?_
  rw [hlen,ob_some]
  refine bs_no (decide_eq_false (by omega)) (J45_20_in ?_)
  rw [show peekN B M 9 (pt x9) = some oc from peekVN (z.k.cs _ _ z.c3) hl,ob_some]
  refine op_fldP ?_
  rw [z.p1 (v := v8) (i := 0 + 8) rfl,ob_some]
  refine hr.live _ ?_
  rw [hlen,ob_some]
  have ha : rws.any rowW = false := by rw [← e3]; rfl
  refine ib_le ?_
  refine op_st (c := row3 0 0 0) (vs := oc) rfl hl (z.k.cs _ _ z.c2) (by simp [row3]) ?_
  have k3 := z.k.set z.c2 z.l2 (.var oc)
  have g5 := k3.cs x5 _ (by rw [updC_ne n57]; exact z.c1)
  rw [putAt_all (by rw [hl]; rfl)]
  refine ⟨ib_le rfl,rfl,by rw [peekV g5 (v := v8) rfl,ob_some]; exact hr.live _ rfl,op_fldP rfl,?_⟩
  rw [show peekN B (M.set x7 (.var oc)) 9 (pt x7) = some oc from peekVN (k3.cs _ _ updC_at) hl,ob_some]
  obtain ⟨L,hL⟩ := k3.pre
  rw [hL]
  refine tidy_none ?_
  by_cases h512 : (rws.length : Int) ≤ 512
  ·rw [decide_eq_true h512]
   have := h1 (by rw [ha,decide_eq_true h512]; rfl) L
   rw [← e2] at this
   exact this
  ·rw [decide_eq_false h512]
   exact h0 (by rw [decide_eq_false h512]; rfl) _ L
 | cons l rest ih =>
  intro i acc e1 e2 e3 e4
  obtain ⟨g1,g2,g3⟩ := drop_cons e1
  obtain ⟨u,hu,hes⟩ := at_some hfr g1
  have hru : (us.map fun u => [u])[i]? = some [u] := by simp [hu]
  have hll := hok.2 l (List.mem_of_getElem? g1)
  have hlu : lenOf u = some l.length := by have := Sl.len hes; rwa [List.length_map] at this
  simp only [List.length_cons] at e4
  have hrl := rowB_le hll
  refine L45_19_in (ACall.cle B table) (op_fldP ?_)
  rw [z.p1 (v := v8) (i := 0 + 8) rfl,ob_some]
  refine hr.live _ ?_
  rw [hlen,ob_some]
  refine bs_yes (decide_eq_true (by omega)) (J45_18_in (op_fldP ?_))
  rw [z.p1 (v := v8) (i := 0 + 8) rfl,ob_some]
  refine hr.live _ (op_idx hr (in_some hru) ?_)
  rw [(hr.el hru).peek0 (v := u) rfl,ob_some]
  have any1 : rowW l = true → rws.any rowW = true := fun hw => by rw [← e3]; simp [hw]
  have bad : rowW l = true → ∀ a : List UInt8,J45_16 B (Cl B) n (.str acc) (pt x5) (pt x7) (pt x9) (i : Int) (.str a) (.bool true) M Q := fun hw a => J45_16_in (by
   rw [pBool_bool,if_pos rfl]
   exact ret45 z hl (h0 (by rw [any1 hw,Bool.or_true]) _))
  refine Sl.live hes _ (f31_ok hes (by omega) (by omega) (fun hw => tuple_sb (J45_17_in ?_)) fun hw s' => tuple_sb (J45_17_in ?_))
  ·rw [pBool_bool]
   refine bs_yes rfl (op_fldP ?_)
   rw [z.p1 (v := v8) (i := 0 + 8) rfl,ob_some]
   refine hr.live _ (op_idx hr (in_some hru) ?_)
   rw [(hr.el hru).peek0 (v := u) rfl,ob_some]
   refine Sl.live hes _ ?_
   rw [hlu,ob_some]
   by_cases h64 : (l.length : Int) > 64
   ·exact ib_gt_yes h64 (bad (by simp [rowW]; omega) _)
   ·refine ib_gt_no h64 (J45_16_in ?_)
    have hw2 : rowW l = false := by
     have : (l.any fun e => !entR e) = false := hw
     simp [rowW,this]; omega
    rw [pBool_bool,if_neg (by decide),w64 (n := (i : Int) + 1) (by have := hok.1; omega)]
    have er : acc ++ putF l.length ++ entsB l = acc ++ rowB l := by unfold rowB; rw [List.append_assoc]; rfl
    rw [er]
    refine ih (i + 1) _ g3 ?_ ?_ (by simp only [List.length_append]; omega)
    ·rw [← e2,List.flatMap_cons,List.append_assoc]
    ·rw [← e3]; simp [hw2]
  ·rw [pBool_bool]
   have hw2 : rowW l = true := by
    have : (l.any fun e => !entR e) = true := hw
    simp [rowW,this]
   exact bs_no rfl (bad hw2 s')
end
end
end Go.Am
namespace Go.Am
open Go
section
variable {B : Base} {n : Nat} {H G M : Heap} {C : Nat → Option AObj} {Q : AV → Heap → Prop} {s : List UInt8} {x5 x7 x9 : Nat} {c oc : List AV}
theorem onlyR_ok {k : Int} {r : Rpl} (h : RpOk r) : RpOk (onlyR k r) := by
 obtain ⟨o1,o2,o3,o4,o5,o6,o7,o8,o9⟩ := h
 have z : (0 : Int) ≤ 9223372036854775807 := by decide
 have nl : ([] : List UInt8).length ≤ 1000000 := Nat.zero_le _
 have n1 : ([] : List Pnt).length ≤ 600 ∧ ∀ p,p ∈ ([] : List Pnt) → PtOk p := ⟨Nat.zero_le _,fun _ h => by cases h⟩
 have n2 : ([] : List Spn).length ≤ 600 ∧ ∀ p,p ∈ ([] : List Spn) → SnOk p := ⟨Nat.zero_le _,fun _ h => by cases h⟩
 have n3 : ([] : List (List Ent)).length ≤ 600 ∧ ∀ l,l ∈ ([] : List (List Ent)) → l.length ≤ 100 := ⟨Nat.zero_le _,fun _ h => by cases h⟩
 unfold onlyR
 split
 ·exact ⟨z,o2,z,nl,n1,nl,n2,nl,n3⟩
 split
 ·exact ⟨z,z,z,o4,o5,nl,n2,nl,n3⟩
 split
 ·exact ⟨z,z,z,nl,n1,o6,o7,nl,n3⟩
 split
 ·exact ⟨z,z,o3,nl,n1,nl,n2,o8,n3⟩
 split
 ·exact ⟨z,z,o3,nl,n1,nl,n2,o8,o9⟩
 ·exact ⟨z,o2,o3,nl,n1,nl,n2,nl,n3⟩
theorem pts_nil : PtsR B H .nils [] := ⟨[],sl_nil,F2.nil⟩
theorem sns_nil : SnsR B H .nils [] := ⟨[],sl_nil,F2.nil⟩
theorem rws_nil : RowsR B H .nils [] := ⟨[],sl_nil,F2.nil⟩
theorem f45_ok {k : Int} {r : Rpl} (hr : RpR B H c r) (ho : RpOk r) (hk : 1 ≤ k ∧ k ≤ 6) (hs : s.length ≤ 1000) (hq : BoQ B H k r c s Q) : Cl B 45 [.str s,.int .i64 k,.agg c] H Q := by
 have hr0 := hr
 obtain ⟨v3,v4,v5,v6,v7,v8,rfl,r3,r4,r5,r6,r7,r8⟩ := hr
 obtain ⟨er,la,ep,psum,pts,ssum,sns,sum,rows⟩ := r
 have hro := ho
 obtain ⟨o1,o2,o3,o4,o5,o6,o7,o8,o9⟩ := ho
 simp only at r3 r4 r5 r6 r7 r8 o1 o2 o3 o4 o5 o6 o7 o8 o9
 refine f45_in fun n cl hn hcl hH hA => op_box rfl rfl (op_alloc ?_)
 subst hcl
 have k1 := (KW.zero (G := H)).add (.var (cc9 er la ep v3 v4 v5 v6 v7 v8))
 have k2 := k1.add (.var (row3 0 0 0))
 have c1 := keeps_add (o := .var (row3 0 0 0)) k1 _ _ updC_at
 have hl2 : H.length < (H ++ [AObj.var (cc9 er la ep v3 v4 v5 v6 v7 v8)]).length := by simp
 have c2 : updC (updC (fun _ => none) H.length (.var (cc9 er la ep v3 v4 v5 v6 v7 v8))) (H ++ [AObj.var (cc9 er la ep v3 v4 v5 v6 v7 v8)]).length (.var (row3 0 0 0)) (H ++ [AObj.var (cc9 er la ep v3 v4 v5 v6 v7 v8)]).length = some (.var (row3 0 0 0)) := updC_at
 have eG : H ++ [AObj.var [.int .i64 er,.int .i64 la,.int .i64 ep,v3,v4,v5,v6,v7,v8]] ++ [.var [.int .i64 0,.int .i64 0,.int .i64 0,.nils,.nils,.nils,.nils,.nils,.nils]] = H ++ [AObj.var (cc9 er la ep v3 v4 v5 v6 v7 v8)] ++ [.var (row3 0 0 0)] := rfl
 have eL : (H ++ [AObj.var [.int .i64 er,.int .i64 la,.int .i64 ep,v3,v4,v5,v6,v7,v8]]).length = (H ++ [AObj.var (cc9 er la ep v3 v4 v5 v6 v7 v8)]).length := rfl
 dsimp only
 rw [eG,eL]
 generalize (H ++ [AObj.var (cc9 er la ep v3 v4 v5 v6 v7 v8)]).length = x7 at k2 c1 c2 hl2 ⊢
 generalize updC (updC (fun _ => none) H.length (.var (cc9 er la ep v3 v4 v5 v6 v7 v8))) x7 (.var (row3 0 0 0)) = C2 at k2 c1 c2
 generalize H ++ [AObj.var (cc9 er la ep v3 v4 v5 v6 v7 v8)] ++ [AObj.var (row3 0 0 0)] = G2 at k2 ⊢
 refine J45_39_in ?_
 rw [show layParts [(.int .i64 0),(.int .i64 0),(.int .i64 0),.nils,.nils,.nils,.nils,.nils,.nils] [] = some (row3 0 0 0) from rfl,ob_some]
 refine op_alloc (op_st_last rfl rfl ?_)
 have hx2 := k2.lt c2
 have hx1 := k2.lt c1
 have z : Z45 H (G2 ++ [.var (row3 0 0 0)]) (updC C2 G2.length (.var (row3 0 0 0))) H.length x7 G2.length (cc9 er la ep v3 v4 v5 v6 v7 v8) (row3 0 0 0) :=
  ⟨k2.add _,keeps_add k2 _ _ c1,keeps_add k2 _ _ c2,updC_at,Nat.le_of_lt hl2,k2.le,by omega,by omega,trivial⟩
 have n57 : H.length ≠ x7 := by omega
 generalize updC C2 G2.length (.var (row3 0 0 0)) = C3 at z
 generalize G2.length = x9 at z ⊢
 generalize G2 ++ [AObj.var (row3 0 0 0)] = M at z ⊢
 have mT : Mono TT := fun _ _ _ _ => trivial
 have hB : ∀ {v : AV} {t : List UInt8} {M : Heap} {D : Nat → Option AObj},KW H M D → Bs B H v t → Bs B M v t := fun {v t M D} k h => k.bs h
 refine J45_38_in (J45_32_in (ib_eq (J45_31_in ?_)))
 rw [pBool_bool]
 split
 ·rename_i e
  have e := of_decide_eq_true e
  subst e
  refine op_fldP ?_
  rw [z.p1 (v := .int .i64 la) (i := 0 + 1) rfl,ob_some]
  refine int_i (op_fldP (z.put mT rfl (by simp [row3]) (cc' := row3 0 la 0) rfl fun z1 => J45_1_in (op_fldP ?_)))
  rw [z1.p1 (v := .int .i64 la) (i := 0 + 1) rfl,ob_some]
  refine int_i (f33_ok ?_)
  rw [pBool_bool]
  refine bs_iff.2 ⟨fun hn => J45_0_in (op_fldP ?_),fun hn => ret45 z1 rfl fun L => hq.1 (by simp [bodyW,hn]) _ _ _ L (rp3_ok' (by decide) o2 (by decide)) (fun N _ => rp3_r (e := 0) (l := la) (p := 0))⟩
  have ha : 0 ≤ la := by simp only [numOk,Bool.and_eq_true,decide_eq_true_eq] at hn; exact hn.1
  rw [z1.p1 (v := .int .i64 la) (i := 0 + 1) rfl,ob_some]
  refine int_i ?_
  rw [peekVN (n := 9) (z1.k.cs _ _ z1.c3) rfl,ob_some]
  refine f34_ok (by omega) ⟨ha,o2⟩ ?_
  rw [pStr_str]
  refine ⟨by rw [peekVN (n := 9) (z1.k.cs _ _ z1.c3) rfl]; rfl,?_⟩
  have := ret45 (B := B) (n := n) (Q := Q) (b := true) (a := s ++ putF la.toNat) z1 rfl fun L => by
   have := hq.2 (by simp [bodyW,hn]) (row3 0 la 0) L (fun N _ => by show RpR B N (row3 0 la 0) (rp3 0 la 0); exact rp3_r)
   exact this
  rw [show peekN B (M.set x9 (.var (row3 0 la 0))) 9 (pt x9) = some (row3 0 la 0) from peekVN (z1.k.cs _ _ z1.c3) rfl,ob_some] at this
  exact this
 rename_i e1
 have e1 : ¬ k = 1 := fun e => e1 (decide_eq_true e)
 refine ib_eq (J45_30_in ?_)
 rw [pBool_bool]
 split
 ·rename_i e
  have e := of_decide_eq_true e
  subst e
  refine op_fldP ?_
  rw [peekN_mid (i := 0 + 3) (m := 2) (a := [.int .i64 er,.int .i64 la,.int .i64 ep]) (c := [v3,v4]) (d := [v5,v6,v7,v8]) (z.k.cs _ _ z.c1) rfl rfl,ob_some]
  refine op_fldP (z.put2 mT rfl (by simp [row3]) (cc' := cc9 0 0 0 v3 v4 .nils .nils .nils .nils) rfl fun z1 => J45_8_in (op_fldP (op_fldP ?_)))
  have b3 := hB z1.k r3
  have b4 : PtsR B (M.set x9 (.var (cc9 0 0 0 v3 v4 .nils .nils .nils .nils))) v4 pts := by obtain ⟨L,hL⟩ := z1.k.pre; rw [hL]; exact r4.pre
  have l4 : lenOf v4 = some pts.length := by obtain ⟨rows,h1,h2⟩ := r4; rw [h1.len,h2.1]
  rw [z1.p1 (v := v3) (i := 0 + 3 + 0) rfl,ob_some]
  refine Sl.live b3 _ (op_toStr b3 (op_fldP (op_fldP ?_)))
  rw [z1.p1 (v := v4) (i := 0 + 3 + 1) rfl,ob_some]
  refine b4.live ?_
  have pp := putF_small psum.length (by omega)
  have pl := putF_small pts.length (by have := o5.1; omega)
  rw [l4,ob_some]
  refine f32_ok (by omega) o4 ?_
  rw [pStr_str]
  refine ⟨rfl,by rw [z1.p1 (v := v4) (i := 0 + 3 + 1) rfl,ob_some]; exact b4.live rfl,op_fldP rfl,op_fldP rfl,?_⟩
  refine f34_ok (by simp only [List.length_append]; omega) (by have := o5.1; omega) ?_
  rw [pStr_str,Int.toNat_natCast]
  have rr : ∀ N,RpR B N (cc9 er la ep v3 v4 v5 v6 v7 v8) ⟨er,la,ep,psum,pts,ssum,sns,sum,rows⟩ → RpR B N (cc9 0 0 0 v3 v4 .nils .nils .nils .nils) (rq2 psum pts) := fun N h => by
     obtain ⟨w3,w4,w5,w6,w7,w8,e,h3,h4,h5,h6,h7,h8⟩ := h
     cases e
     exact ⟨v3,v4,.nils,.nils,.nils,.nils,rfl,h3,h4,Bs.nil,sns_nil,Bs.nil,rws_nil⟩
  refine J45_7_in (bo_pts (s0 := s ++ putF psum.length ++ psum ++ putF pts.length) z1 n57 rfl r4 o5 (fun hw s' L => hq.1 (by simpa [bodyW] using hw) _ _ _ L (onlyR_ok (k := 2) hro) rr) (fun hw L => ?_) pts 0 _ rfl rfl rfl (by have := o5.1; simp only [List.length_append]; omega))
  have := hq.2 (by simpa [bodyW] using hw) _ L rr
  simpa [bodyB,leafB] using this
 rename_i e2
 have e2 : ¬ k = 2 := fun e => e2 (decide_eq_true e)
 refine ib_eq (J45_29_in ?_)
 rw [pBool_bool]
 split
 ·rename_i e
  have e := of_decide_eq_true e
  subst e
  refine op_fldP ?_
  rw [peekN_mid (i := 0 + 5) (m := 2) (a := [.int .i64 er,.int .i64 la,.int .i64 ep,v3,v4]) (c := [v5,v6]) (d := [v7,v8]) (z.k.cs _ _ z.c1) rfl rfl,ob_some]
  refine op_fldP (z.put2 mT rfl (by simp [row3]) (cc' := cc9 0 0 0 .nils .nils v5 v6 .nils .nils) rfl fun z1 => J45_15_in (op_fldP (op_fldP ?_)))
  have b3 := hB z1.k r5
  have b4 : SnsR B (M.set x9 (.var (cc9 0 0 0 .nils .nils v5 v6 .nils .nils))) v6 sns := by obtain ⟨L,hL⟩ := z1.k.pre; rw [hL]; exact r6.pre
  have l4 : lenOf v6 = some sns.length := by obtain ⟨rows,h1,h2⟩ := r6; rw [h1.len,h2.1]
  rw [z1.p1 (v := v5) (i := 0 + 5 + 0) rfl,ob_some]
  refine Sl.live b3 _ (op_toStr b3 (op_fldP (op_fldP ?_)))
  rw [z1.p1 (v := v6) (i := 0 + 5 + 1) rfl,ob_some]
  refine b4.live ?_
  have pp := putF_small ssum.length (by omega)
  have pl := putF_small sns.length (by have := o7.1; omega)
  rw [l4,ob_some]
  refine f32_ok (by omega) o6 ?_
  rw [pStr_str]
  refine ⟨rfl,by rw [z1.p1 (v := v6) (i := 0 + 5 + 1) rfl,ob_some]; exact b4.live rfl,op_fldP rfl,op_fldP rfl,?_⟩
  refine f34_ok (by simp only [List.length_append]; omega) (by have := o7.1; omega) ?_
  rw [pStr_str,Int.toNat_natCast]
  have rr : ∀ N,RpR B N (cc9 er la ep v3 v4 v5 v6 v7 v8) ⟨er,la,ep,psum,pts,ssum,sns,sum,rows⟩ → RpR B N (cc9 0 0 0 .nils .nils v5 v6 .nils .nils) (rq3 ssum sns) := fun N h => by
     obtain ⟨w3,w4,w5,w6,w7,w8,e,h3,h4,h5,h6,h7,h8⟩ := h
     cases e
     exact ⟨.nils,.nils,v5,v6,.nils,.nils,rfl,Bs.nil,pts_nil,h5,h6,Bs.nil,rws_nil⟩
  refine J45_14_in (bo_sns (s0 := s ++ putF ssum.length ++ ssum ++ putF sns.length) z1 n57 rfl r6 o7 (fun hw s' L => hq.1 (by simpa [bodyW] using hw) _ _ _ L (onlyR_ok (k := 3) hro) rr) (fun hw L => ?_) sns 0 _ rfl rfl rfl (by have := o7.1; simp only [List.length_append]; omega))
  have := hq.2 (by simpa [bodyW] using hw) _ L rr
  simpa [bodyB,leafB] using this
 rename_i e3
 have e3 : ¬ k = 3 := fun e => e3 (decide_eq_true e)
 have mv : ∀ b : Bool,(b = true ↔ (k = 4 ∨ k = 5)) → J45_28 B (Cl B) n s k (pt H.length) (pt x7) (pt x9) (.bool b) M Q := fun b hb => by
  refine J45_28_in ?_
  rw [pBool_bool]
  split
  ·rename_i e
   have k45 := hb.1 e
   have l8 : lenOf v8 = some rows.length := by obtain ⟨us,h1,h2⟩ := r8; rw [h1.len,List.length_map,h2.1]
   refine op_fldP ?_
   rw [z.p1 (v := .int .i64 ep) (i := 0 + 2) rfl,ob_some]
   refine int_i (op_fldP (z.put mT rfl (by simp [row3]) (cc' := cc9 0 0 ep .nils .nils .nils .nils .nils .nils) rfl fun z1 => J45_27_in (op_fldP ?_)))
   have b7 := hB z1.k r7
   rw [z1.p1 (v := v7) (i := 0 + 7) rfl,ob_some]
   refine Sl.live b7 _ (op_fldP (z1.put mT (bs_cells r7) (by simp) (cc' := cc9 0 0 ep .nils .nils .nils .nils v7 .nils) rfl fun z2 => J45_26_in (op_fldP ?_)))
   have r4' : ∀ N,RpR B N (cc9 er la ep v3 v4 v5 v6 v7 v8) ⟨er,la,ep,psum,pts,ssum,sns,sum,rows⟩ → RpR B N (cc9 0 0 ep .nils .nils .nils .nils v7 .nils) (rq5 ep sum []) := fun N h => by
     obtain ⟨w3,w4,w5,w6,w7,w8,e,h3,h4,h5,h6,h7,h8⟩ := h
     cases e
     exact ⟨.nils,.nils,.nils,.nils,v7,.nils,rfl,Bs.nil,pts_nil,Bs.nil,sns_nil,h7,rws_nil⟩
   have ok4 : RpOk (rq5 ep sum []) := onlyR_ok (k := 4) hro
   rw [z2.p1 (v := .int .i64 ep) (i := 0 + 2) rfl,ob_some]
   refine int_i (f33_ok ?_)
   rw [pBool_bool]
   refine bs_iff.2 ⟨fun hn => J45_25_in (op_fldP ?_),fun hn => ret45 z2 rfl fun L => hq.1 (by rcases k45 with rfl | rfl <;> simp [bodyW,hn]) _ _ _ L ok4 r4'⟩
   have ha : 0 ≤ ep := by simp only [numOk,Bool.and_eq_true,decide_eq_true_eq] at hn; exact hn.1
   have b72 := hB z2.k r7
   rw [z2.p1 (v := .int .i64 ep) (i := 0 + 2) rfl,ob_some]
   refine int_i (op_fldP ?_)
   rw [z2.p1 (v := v7) (i := 0 + 7) rfl,ob_some]
   refine Sl.live b72 _ (op_toStr b72 ?_)
   have pe := putF_small ep.toNat (by omega)
   have pp := putF_small sum.length (by omega)
   have pl := putF_small rows.length (by have := o9.1; omega)
   refine f34_ok (by omega) ⟨ha,o3⟩ ?_
   rw [pStr_str]
   refine ⟨op_toStr b72 rfl,by rw [z2.p1 (v := v7) (i := 0 + 7) rfl,ob_some]; exact Sl.live b72 _ rfl,op_fldP rfl,?_⟩
   refine f32_ok (by simp only [List.length_append]; omega) o8 ?_
   rw [pStr_str]
   refine J45_24_in (bs_iff.2 ⟨fun e4 => ?_,fun e4 => J45_23_in (op_fldP ?_)⟩)
   ·have e4 : k = 4 := by simpa using e4
    subst e4
    refine ret45 z2 rfl fun L => ?_
    have := hq.2 (by simp [bodyW,hn]) _ L r4'
    simpa [bodyB,leafB] using this
   ·have e4 : ¬ k = 4 := by simpa using e4
    have e5 : k = 5 := by omega
    subst e5
    have b8 : RowsR B ((M.set x9 (.var (cc9 0 0 ep .nils .nils .nils .nils .nils .nils))).set x9 (.var (cc9 0 0 ep .nils .nils .nils .nils v7 .nils))) v8 rows := by obtain ⟨L,hL⟩ := z2.k.pre; rw [hL]; exact r8.pre
    have hc8 : v8.cells? = some [v8] := by
     obtain ⟨us,h1,_⟩ := r8
     obtain ⟨_,⟨rfl,_⟩ | ⟨o,off,cap,rfl,_⟩⟩ := h1 <;> rfl
    rw [z2.p1 (v := v8) (i := 0 + 8) rfl,ob_some]
    refine b8.live (op_fldP (z2.put mT hc8 (by simp) (cc' := cc9 0 0 ep .nils .nils .nils .nils v7 v8) rfl fun z3 => J45_22_in (op_fldP ?_)))
    rw [z3.p1 (v := v8) (i := 0 + 8) rfl,ob_some]
    refine b8.live ?_
    rw [l8,ob_some]
    refine f34_ok (by simp only [List.length_append]; omega) (by have := o9.1; omega) ?_
    rw [pStr_str,Int.toNat_natCast]
    have rr : ∀ N,RpR B N (cc9 er la ep v3 v4 v5 v6 v7 v8) ⟨er,la,ep,psum,pts,ssum,sns,sum,rows⟩ → RpR B N (cc9 0 0 ep .nils .nils .nils .nils v7 v8) (rq5 ep sum rows) := fun N h => by
     obtain ⟨w3,w4,w5,w6,w7,w8,e,h3,h4,h5,h6,h7,h8⟩ := h
     cases e
     exact ⟨.nils,.nils,.nils,.nils,v7,v8,rfl,Bs.nil,pts_nil,Bs.nil,sns_nil,h7,h8⟩
    refine J45_21_in (bo_rws (s0 := s ++ putF ep.toNat ++ putF sum.length ++ sum ++ putF rows.length) z3 n57 rfl r8 o9 (fun hw s' L => hq.1 (by simpa [bodyW,hn] using hw) _ _ _ L (onlyR_ok (k := 5) hro) rr) (fun hw L => ?_) rows 0 _ rfl rfl rfl (by have := o9.1; simp only [List.length_append]; omega))
    have := hq.2 (by simpa [bodyW,hn] using hw) _ L rr
    simpa [bodyB,leafB] using this
  ·rename_i e
   have k45 : ¬ (k = 4 ∨ k = 5) := fun h => e (hb.2 h)
   have e6 : k = 6 := by omega
   subst e6
   refine J45_37_in (op_fldP ?_)
   rw [z.p1 (v := .int .i64 la) (i := 0 + 1) rfl,ob_some]
   refine int_i (op_fldP (z.put mT rfl (by simp [row3]) (cc' := row3 0 la 0) rfl fun z1 => J45_36_in (op_fldP ?_)))
   rw [z1.p1 (v := .int .i64 ep) (i := 0 + 2) rfl,ob_some]
   refine int_i (op_fldP (z1.put mT rfl (by simp [row3]) (cc' := row3 0 la ep) rfl fun z2 => J45_35_in (op_fldP ?_)))
   have rr : ∀ N,RpR B N (cc9 er la ep v3 v4 v5 v6 v7 v8) ⟨er,la,ep,psum,pts,ssum,sns,sum,rows⟩ → RpR B N (row3 0 la ep) (rp3 0 la ep) := fun N _ => rp3_r
   have bad : (numOk la && numOk ep) = false → J45_33 B (Cl B) n s (pt H.length) (pt x7) (pt x9) (.bool true) ((M.set x9 (.var (row3 0 la 0))).set x9 (.var (row3 0 la ep))) Q := fun hw => J45_33_in (by
    rw [pBool_bool,if_pos rfl]
    refine ret45 z2 rfl fun L => hq.1 ?_ _ _ _ L (rp3_ok' (by decide) o2 o3) rr
    simp only [bodyW]
    cases h1 : numOk la <;> cases h2 : numOk ep <;> simp_all)
   rw [z2.p1 (v := .int .i64 la) (i := 0 + 1) rfl,ob_some]
   refine int_i (f33_ok ?_)
   rw [pBool_bool]
   refine bs_iff.2 ⟨fun hn => op_fldP ?_,fun hn => bad (by rw [hn]; rfl)⟩
   rw [z2.p1 (v := .int .i64 ep) (i := 0 + 2) rfl,ob_some]
   refine int_i (f33_ok (tyK_bool (op_notB ?_)))
   cases hn2 : numOk ep with
   | false => exact bad (by rw [hn2,Bool.and_false])
   | true =>
    have ha : 0 ≤ la := by simp only [numOk,Bool.and_eq_true,decide_eq_true_eq] at hn; exact hn.1
    have he : 0 ≤ ep := by simp only [numOk,Bool.and_eq_true,decide_eq_true_eq] at hn2; exact hn2.1
    have pla := putF_small la.toNat (by omega)
    refine J45_33_in ?_
    rw [pBool_bool,if_neg (by decide)]
    refine J45_34_in (op_fldP ?_)
    rw [z2.p1 (v := .int .i64 la) (i := 0 + 1) rfl,ob_some]
    refine int_i (op_fldP ?_)
    rw [z2.p1 (v := .int .i64 ep) (i := 0 + 2) rfl,ob_some]
    refine int_i ?_
    have pk : peekN B ((M.set x9 (.var (row3 0 la 0))).set x9 (.var (row3 0 la ep))) 9 (pt x9) = some (row3 0 la ep) := peekVN (z2.k.cs _ _ z2.c3) rfl
    rw [pk,ob_some]
    refine f34_ok (by omega) ⟨ha,o2⟩ ?_
    rw [pStr_str]
    refine ⟨by rw [pk]; rfl,by rw [z2.p1 (v := .int .i64 ep) (i := 0 + 2) rfl,ob_some]; exact int_i rfl,op_fldP rfl,?_⟩
    refine f34_ok (by simp only [List.length_append]; omega) ⟨he,o3⟩ ?_
    rw [pStr_str]
    refine ⟨by rw [pk]; rfl,?_⟩
    have := ret45 (B := B) (n := n) (Q := Q) (b := true) (a := s ++ putF la.toNat ++ putF ep.toNat) z2 rfl fun L => by
     have := hq.2 (by simp [bodyW,hn,hn2]) (row3 0 la ep) L rr
     simpa [bodyB] using this
    rw [pk,ob_some] at this
    exact this
 refine bs_iff.2 ⟨fun e4 => mv true ?_,fun e4 => ib_eq (mv _ ?_)⟩
 ·have e4 : k = 4 := by simpa using e4
  simp [e4]
 ·have e4 : ¬ k = 4 := by simpa using e4
  simp [e4]
end
end Go.Am
namespace Go.Am
open Go
section
variable {B : Base} {n : Nat} {H G M : Heap} {C : Nat → Option AObj} {Q : AV → Heap → Prop} {c oc : List AV}
theorem only_eq {k : Int} {r : Rpl} (hk : 1 ≤ k ∧ k ≤ 6) (h0 : r.err = 0) : decide (onlyR k r = r) = emptyB k r := by
 obtain ⟨err,last,epoch,psum,pts,ssum,sns,sum,rows⟩ := r
 simp only at h0
 subst h0
 have k6 : k = 1 ∨ k = 2 ∨ k = 3 ∨ k = 4 ∨ k = 5 ∨ k = 6 := by omega
 rw [Bool.eq_iff_iff,decide_eq_true_eq]
 rcases k6 with rfl | rfl | rfl | rfl | rfl | rfl
 ·rw [show onlyR 1 ⟨0,last,epoch,psum,pts,ssum,sns,sum,rows⟩ = ⟨0,last,0,[],[],[],[],[],[]⟩ from rfl]
  constructor
  ·intro h; cases h; simp [emptyB,b1,b2,b3,b4,b5,b6]
  ·intro h
   simp [emptyB,b1,b2,b3,b4,b5,b6] at h
   simp [h]
 ·rw [show onlyR 2 ⟨0,last,epoch,psum,pts,ssum,sns,sum,rows⟩ = ⟨0,0,0,psum,pts,[],[],[],[]⟩ from rfl]
  constructor
  ·intro h; cases h; simp [emptyB,b1,b2,b3,b4,b5,b6]
  ·intro h
   simp [emptyB,b1,b2,b3,b4,b5,b6] at h
   simp [h]
 ·rw [show onlyR 3 ⟨0,last,epoch,psum,pts,ssum,sns,sum,rows⟩ = ⟨0,0,0,[],[],ssum,sns,[],[]⟩ from rfl]
  constructor
  ·intro h; cases h; simp [emptyB,b1,b2,b3,b4,b5,b6]
  ·intro h
   simp [emptyB,b1,b2,b3,b4,b5,b6] at h
   simp [h]
 ·rw [show onlyR 4 ⟨0,last,epoch,psum,pts,ssum,sns,sum,rows⟩ = ⟨0,0,epoch,[],[],[],[],sum,[]⟩ from rfl]
  constructor
  ·intro h; cases h; simp [emptyB,b1,b2,b3,b4,b5,b6]
  ·intro h
   simp [emptyB,b1,b2,b3,b4,b5,b6] at h
   simp [h]
 ·rw [show onlyR 5 ⟨0,last,epoch,psum,pts,ssum,sns,sum,rows⟩ = ⟨0,0,epoch,[],[],[],[],sum,rows⟩ from rfl]
  constructor
  ·intro h; cases h; simp [emptyB,b1,b2,b3,b4,b5,b6]
  ·intro h
   simp [emptyB,b1,b2,b3,b4,b5,b6] at h
   simp [h]
 ·rw [show onlyR 6 ⟨0,last,epoch,psum,pts,ssum,sns,sum,rows⟩ = ⟨0,last,epoch,[],[],[],[],[],[]⟩ from rfl]
  constructor
  ·intro h; cases h; simp [emptyB,b1,b2,b3,b4,b5,b6]
  ·intro h
   simp [emptyB,b1,b2,b3,b4,b5,b6] at h
   simp [h]
theorem only_err {r : Rpl} (h0 : r.err ≠ 0) : decide (rp3 r.err 0 0 = r) = emptyB 0 r := by
 obtain ⟨err,last,epoch,psum,pts,ssum,sns,sum,rows⟩ := r
 rw [Bool.eq_iff_iff,decide_eq_true_eq]
 rw [show rp3 err 0 0 = ⟨err,0,0,[],[],[],[],[],[]⟩ from rfl]
 constructor
 ·intro h; cases h; simp [emptyB,b1,b2,b3,b4,b5,b6]
 ·intro h
  simp [emptyB,b1,b2,b3,b4,b5,b6] at h
  simp [h]
theorem low_si {a : List UInt8} {i : Int} : Low n (.tuple [.str a,.int .i64 i]) := by simp [Low,RV,RVL]
theorem f18_ok {k : Int} {r : Rpl} (hr : RpR B H c r) (ho : RpOk r) (h1 : sayW k r = true → Q (.tuple [.str [],.int .i64 1]) H) (h2 : sayW k r = false → Q (.tuple [.str (sayF k r),.int .i64 0]) H) : Cl B 18 [.int .i64 k,.agg c] H Q := by
 have hl := hr.nine
 have c0 : c[0 + 0]? = some (.int .i64 r.err) := by obtain ⟨_,_,_,_,_,_,rfl,_⟩ := hr; rfl
 have oe := ho.1
 refine f18_in fun n cl hn hcl hH hA => op_box rfl hl (J18_9_in ?_)
 subst hcl
 have k1 := (KW.zero (G := H)).add (.var c)
 have d3 : updC (fun _ => none) H.length (.var c) H.length = some (.var c) := updC_at
 generalize updC (fun _ => none) H.length (.var c) = C1 at k1 d3
 generalize H ++ [AObj.var c] = G at k1 ⊢
 have fin : ∀ {M : Heap} {D : Nat → Option AObj} (a : List UInt8) (i : Int),KW H M D → Q (.tuple [.str a,.int .i64 i]) H → tidyK n Q (.tuple [.str a,.int .i64 i]) M := fun {M D} a i k h => by
  obtain ⟨⟨L,rfl⟩,_⟩ := k
  exact tidy_drop hn hH low_si h
 have bad : ¬ (1 ≤ k ∧ k ≤ 6 ∧ 0 ≤ r.err ∧ r.err ≤ 10) → J18_0 B (Cl B) n k (pt H.length) (.bool true) G Q := fun hb => J18_0_in (by
  rw [pBool_bool,if_pos rfl]
  refine fin _ _ k1 (h1 ?_)
  have : (decide (1 ≤ k) && decide (k ≤ 6) && (decide (0 ≤ r.err) && decide (r.err ≤ 10))) = false := by
   cases hd : (decide (1 ≤ k) && decide (k ≤ 6) && (decide (0 ≤ r.err) && decide (r.err ≤ 10))) with
   | false => rfl
   | true => simp only [Bool.and_eq_true,decide_eq_true_eq] at hd; exact (hb ⟨hd.1.1,hd.1.2,hd.2.1,hd.2.2⟩).elim
  simp only [sayW,this]; rfl)
 refine bs_dec (fun _ => bad (by omega)) fun k1' => bs_dec (fun _ => bad (by omega)) fun k2' => op_fldP ?_
 rw [peekV (k1.cs _ _ d3) c0,ob_some,pInt_int]
 refine bs_dec (fun _ => bad (by omega)) fun k3' => op_fldP ?_
 rw [peekV (k1.cs _ _ d3) c0,ob_some,pInt_int]
 by_cases k4' : r.err > 10
 ·exact ib_gt_yes k4' (bad (by omega))
 refine ib_gt_no k4' (J18_0_in ?_)
 rw [pBool_bool,if_neg (by decide)]
 have hg : (decide (1 ≤ k) && decide (k ≤ 6) && (decide (0 ≤ r.err) && decide (r.err ≤ 10))) = true := by
  simp only [Bool.and_eq_true,decide_eq_true_eq]; omega
 simp only [sayW,hg,Bool.not_true,Bool.false_or] at h1 h2
 refine J18_8_in (op_fldP ?_)
 rw [peekV (k1.cs _ _ d3) c0,ob_some]
 refine int_i ?_
 rw [show layParts [(.int .i64 0),(.int .i64 0),(.int .i64 0),.nils,.nils,.nils,.nils,.nils,.nils] [(0,1,.int .i64 r.err)] = some (row3 r.err 0 0) from rfl,ob_some]
 refine op_alloc (op_st_last rfl rfl ?_)
 have k2 := k1.add (.var (row3 r.err 0 0))
 have e3 := keeps_add (o := .var (row3 r.err 0 0)) k1 _ _ d3
 have e6 : updC C1 G.length (.var (row3 r.err 0 0)) G.length = some (.var (row3 r.err 0 0)) := updC_at
 have hx : H.length < G.length := k1.lt d3
 generalize updC C1 G.length (.var (row3 r.err 0 0)) = C2 at k2 e3 e6
 generalize G.length = x6 at e6 hx ⊢
 generalize G ++ [AObj.var (row3 r.err 0 0)] = G2 at k2 ⊢
 refine J18_7_in (op_fldP ?_)
 rw [peekV (k2.cs _ _ e3) c0,ob_some]
 refine int_i (f34_ok (by simp) (by omega) ?_)
 rw [pStr_str,List.nil_append]
 have pe : (putF r.err.toNat).length ≤ 10 := putF_small _ (by omega)
 refine J18_6_in (J18_5_in (op_fldP ?_))
 rw [peekV (k2.cs _ _ e3) c0,ob_some]
 refine int_i (ib_eq (J18_1_in ?_))
 rw [pBool_bool]
 have last : ∀ {M : Heap} {D : Nat → Option AObj} {oc : List AV} {ro : Rpl} (a : List UInt8) (b : Bool),KW H M D → D H.length = some (.var c) → D x6 = some (.var oc) → RpOk ro → (∀ N,RpR B N c r → RpR B N oc ro) → ((b && decide (ro = r)) = false → Q (.tuple [.str [],.int .i64 1]) H) → ((b && decide (ro = r)) = true → Q (.tuple [.str a,.int .i64 0]) H) → J18_4 B (Cl B) n (pt H.length) (pt x6) (.str a) (.bool b) M Q := fun {M D oc ro} a b k f3 f6 hro hrr hq1 hq2 => by
  have hrM : RpR B M c r := by obtain ⟨⟨L,rfl⟩,_⟩ := k; exact hr.pre'
  have hoM := hrr M hrM
  refine J18_4_in ?_
  rw [show peekN B M 9 (pt x6) = some oc from peekVN (k.cs _ _ f6) hoM.nine,ob_some,show peekN B M 9 (pt H.length) = some c from peekVN (k.cs _ _ f3) hl,ob_some]
  refine f19_ok hoM hrM hro ho (tyK_bool (J18_3_in ?_))
  rw [pBool_bool]
  refine bs_iff.2 ⟨fun hb => ?_,fun hb => fin _ _ k (hq1 (by rw [hb]; rfl))⟩
  rw [pBool_bool]
  exact bs_iff.2 ⟨fun he => J18_2_in (fin _ _ k (hq2 (by rw [hb,he]; rfl))),fun he => fin _ _ k (hq1 (by rw [he,Bool.and_false]))⟩
 split
 ·rename_i e0
  have e0 := of_decide_eq_true e0
  rw [peekVN (n := 9) (k2.cs _ _ e3) hl,ob_some]
  have hr2 : RpR B G2 c r := by obtain ⟨⟨L,rfl⟩,_⟩ := k2; exact hr.pre'
  rw [if_pos e0] at h1 h2
  have step : ∀ (a : List UInt8) (oc : List AV) (ro : Rpl) (b : Bool) (L : List AObj),RpOk ro → (∀ N,RpR B N c r → RpR B N oc ro) → ((b && decide (ro = r)) = false → Q (.tuple [.str [],.int .i64 1]) H) → ((b && decide (ro = r)) = true → Q (.tuple [.str a,.int .i64 0]) H) →
    pLive (.tuple [.str a,.agg oc,.bool b]) fun v33 => (aop B E0 (G2 ++ L) (fun v34 _ => (aop B E0 (G2 ++ L) (fun v35 _ => (aop B E0 (G2 ++ L) (fun v36 _ => (aop B E0 (G2 ++ L) (fun v37 H38 => J18_4 B (Cl B) n (pt H.length) (pt x6) v34 v36 H38 Q) (.st 9 (.const (pt x6)) (.const (v35))))) (.extract (some .bool) 2 (.const (v33))))) (.extract none 1 (.const (v33))))) (.extract (some .str) 0 (.const (v33)))) := fun a oc ro b L hro hrr hq1 hq2 => by
   have hoc : oc.length = 9 := (hrr _ hr2).nine
   refine live_tuple (op_extS rfl (op_extA rfl (op_extB (b := b) rfl ?_)))
   have k3 := k2.grow L
   refine op_st (c := row3 r.err 0 0) (vs := oc) rfl hoc (k3.cs _ _ e6) (by simp [row3]) ?_
   rw [putAt_all (by rw [hoc]; rfl)]
   have k4 := k3.set e6 (Nat.le_of_lt hx) (.var oc)
   exact last a b k4 (by rw [updC_ne (by omega)]; exact e3) updC_at hro hrr hq1 hq2
  refine f45_ok hr2 ho ⟨by omega,by omega⟩ (by omega) ⟨fun hw s' oc ro L hro hrr => step s' oc ro false L hro hrr (fun _ => h1 (by rw [hw,Bool.or_true])) (fun e => by cases e),fun hw oc L hrr => step _ oc (onlyR k r) true L (onlyR_ok ho) hrr (fun e => h1 ?_) (fun e => ?_)⟩
  ·rw [Bool.true_and,only_eq ⟨by omega,by omega⟩ e0] at e
   rw [e]; rfl
  ·rw [Bool.true_and,only_eq ⟨by omega,by omega⟩ e0] at e
   have := h2 (by rw [e,hw]; rfl)
   simp only [sayF,if_pos e0] at this
   exact this
 ·rename_i e0
  have e0 : ¬ r.err = 0 := fun e => e0 (decide_eq_true e)
  rw [if_neg e0] at h1 h2
  refine last _ true k2 e3 e6 (rp3_ok' oe (by decide) (by decide)) (fun N _ => rp3_r) (fun e => h1 ?_) fun e => ?_
  ·rw [Bool.true_and,only_err e0] at e
   rw [e]; rfl
  ·rw [Bool.true_and,only_err e0] at e
   have := h2 (by rw [e]; rfl)
   simp only [sayF,if_neg e0,List.append_nil] at this
   exact this
end
end Go.Am
