/- The law PickCounts: the rest of its walk. -/
import Derived.Test.YtdgjmffnjkimoaaPc2
namespace Go.Am
open Go

theorem cnt_ok (x : Int) : ∃ k : Nat, k < 50 ∧ Int.tmod (bitsOp .and IntKind.i64 x 65535) 50 = k := by
  have h : ∃ m : Nat, bitsOp .and IntKind.i64 x 65535 = m := by
    refine ⟨(BitVec.ofInt 64 x &&& BitVec.ofInt 64 65535).toNat, ?_⟩
    show IntKind.i64.wrap ((BitVec.ofInt 64 x &&& BitVec.ofInt 64 65535).toNat : Int) = _
    have : (BitVec.ofInt 64 x &&& BitVec.ofInt 64 65535).toNat ≤ 65535 := by
      rw [BitVec.toNat_and]
      exact Nat.and_le_right
    exact w64 (by omega)
  obtain ⟨m, hm⟩ := h
  refine ⟨m % 50, Nat.mod_lt _ (by omega), ?_⟩
  rw [hm, Int.tmod_eq_emod_of_nonneg (by omega)]
  omega

section
variable {B : Base} {n : Nat} {H : Heap} {Q : AV → Heap → Prop}

theorem f8_level {lv cnt : Nat} {ns : List Nat} {pre : List Tab} (hn : n = H.length) (hH : LowH n H) (hl : ns.length = 4) (hlv : lv < 4) (hpre : ∀ t ∈ pre, t.Ok) (hb : pre.length ≤ 500) (hc : ns[lv]? = some cnt) (h50 : cnt < 50)
    (h : L8_5 B (Cl B) n (.bool true) (X10 H) (growV (H.length + 1) 36 ((pre ++ mkL lv cnt).map Tab.row)) ((lv + 1 : Nat) : Int) (H ++ [nO ns, growO ((pre ++ mkL lv cnt).map Tab.row)]) Q) :
    L8_5 B (Cl B) n (.bool true) (X10 H) (growV (H.length + 1) 36 (pre.map Tab.row)) (lv : Int) (H ++ [nO ns, growO (pre.map Tab.row)]) Q := by
  refine L8_5_in (ACall.cle B table) (bs_dec (fun _ => ?_) fun h1 => by omega)
  have := f8_inner (B := B) (Q := Q) (pre := pre) hn hH hl hlv hpre hb hc h50 (J8_4_in (by rw [w64 (n := (lv : Int) + 1) (by omega)]; exact h)) cnt 0 (by omega)
  simpa [mkL] using this

theorem f8_end {G : Heap} {ns : List Nat} {all : List Tab} {x10 x11 x15 : AV} {lv many cnt : Nat} {k : Nat} (h10 : Sl B G 1 x10 (ns.map irow)) (h11 : Sl B G 36 x11 (all.map Tab.row)) (hsz : all.length < 1000) (h15 : lenOf x15 = some k) (hk : k = many) (hc : ns[lv]? = some cnt) (ho : ofF lv all = cnt) (hlv : lv < 4)
    (h : tidyK n Q (.bool true) G) : J8_8 B (Cl B) n (.bool true) x10 x11 x15 (.int .i64 ((lv : Int) + 1)) (.bool true) ((lv : Int) + 1) (many : Int) G Q := by
  have hx : (ns.map irow)[lv]? = some (irow cnt) := by simp [hc]
  have hlt : lv < (ns.map irow).length := by
    rcases Nat.lt_or_ge lv (ns.map irow).length with h' | h'
    · exact h'
    · rw [List.getElem?_eq_none h'] at hx; cases hx
  refine J8_8_in ?_
  simp only [pGuard_bool, bs_true, pInt_int]
  refine bs_yes (by simp) ?_
  simp only [pGuard_bool, bs_true, h15, ob_some]
  refine bs_yes (by simp [hk]) ?_
  have e : IntKind.i64.wrap ((lv : Int) + 1 - 1) = lv := by rw [w64 (by omega)]; omega
  simp only [pGuard_bool, bs_true, e]
  refine op_idx h10 hlt ?_
  rw [(h10.el hx).peek0 (v := .int .i64 (cnt : Int)) rfl, ob_some, pInt_int]
  refine f17_ok h11 (by omega) ?_
  rw [pInt_int]
  refine ⟨?_, op_idx h10 hlt rfl, trivial, trivial, trivial, ?_⟩
  · rw [(h10.el hx).peek0 (v := .int .i64 (cnt : Int)) rfl, ob_some, pInt_int]
  · rw [ho]
    exact bs_yes (by simp) h

/-- From the picks on. -/
theorem f8_rest {G : Heap} {a b c d : Nat} {x10 x11 : AV} (ha : a < 50) (hb : b < 50) (hc : c < 50) (hd : d < 50) (h10 : Sl B G 1 x10 (([a, b, c, d] : List Nat).map irow)) (h11 : Sl B G 36 x11 ((allC a b c d).map Tab.row))
    (h : ∀ L, tidyK n Q (.bool true) (G ++ L)) : J8_14 B (Cl B) n (.bool true) x10 x11 G Q := by
  have hG : tidyK n Q (.bool true) G := by simpa using h []
  have hsz : (allC a b c d).length < 1000 := by simp [allC, mkL_len]; omega
  obtain ⟨o0, o1, o2⟩ := allC_of (a := a) (b := b) (c := c) (d := d)
  have pk := pick_C ha hb hc hd
  have look : ∀ {L : Heap} {i m : Nat} {P : Int → Prop}, ([a, b, c, d] : List Nat)[i]? = some m → P (m : Int) → aop B E0 (G ++ L) (fun v _ => ob (peek B (G ++ L) v) fun c => pInt .i64 c P) (.indexPtr 1 (.const x10) (.const (.int .i64 (i : Int)))) := fun {L i m P} hm hP => by
    have hx : (([a, b, c, d] : List Nat).map irow)[i]? = some (irow m) := by rw [List.getElem?_map, hm]; rfl
    have h10' : Sl B (G ++ L) 1 x10 (([a, b, c, d] : List Nat).map irow) := h10.pre
    refine op_idx h10' ?_ ?_
    · rcases Nat.lt_or_ge i (([a, b, c, d] : List Nat).map irow).length with h' | h'
      · exact h'
      · rw [List.getElem?_eq_none h'] at hx; cases hx
    · rw [(h10'.el hx).peek0 (v := .int .i64 (m : Int)) rfl, ob_some, pInt_int]; exact hP
  refine J8_14_in (f10_ok h11 (allC_ok a b c d) (by omega) (fun hp => ?_) fun lv l hp => ?_)
  · rw [hp] at pk
    rcases pk with ⟨_, _, e, _⟩ | ⟨_, _, _, e, _⟩ | ⟨_, _, _, _, e, _⟩ | ⟨h1, h2, h3, _⟩
    · cases e
    · cases e
    · cases e
    refine op_ext3 live_nils (J8_13_in (J8_12_in ?_))
    have lk0 := fun {P : Int → Prop} => look (L := []) (i := 0) (m := a) (P := P) rfl
    have lk1 := fun {P : Int → Prop} => look (L := []) (i := 1) (m := b) (P := P) rfl
    have lk2 := fun {P : Int → Prop} => look (L := []) (i := 2) (m := c) (P := P) rfl
    rw [List.append_nil] at lk0 lk1 lk2
    refine lk0 (bs_no (by simp; omega) (J8_6_in ?_))
    rw [pBool_bool, if_neg (by simp)]
    refine lk1 (bs_no (by simp; omega) ?_)
    refine lk2 (bs_no (by simp; omega) (J8_11_in (J8_10_in ?_)))
    refine bs_no (by simp) (J8_9_in (ib_eq_yes rfl (J8_7_in ?_)))
    simp only [pBool_bool, if_true, pGuard_bool, bs_true, bs_false]
    rw [show lenOf AV.nils = some 0 from rfl, ob_some]
    refine bs_yes (by rfl) ?_
    rw [pInt_int]
    refine ib_eq_yes rfl ?_
    exact hG
  · rw [hp] at pk
    have h10' : Sl B (G ++ [growO (l.map irow)]) 1 x10 (([a, b, c, d] : List Nat).map irow) := h10.pre
    have h11' : Sl B (G ++ [growO (l.map irow)]) 36 x11 ((allC a b c d).map Tab.row) := h11.pre
    have hln : lenOf (growV G.length 1 (l.map irow)) = some l.length := by rw [growV_len, List.length_map]
    have lk0 := fun {P : Int → Prop} => look (L := [growO (l.map irow)]) (i := 0) (m := a) (P := P) rfl
    have lk1 := fun {P : Int → Prop} => look (L := [growO (l.map irow)]) (i := 1) (m := b) (P := P) rfl
    have lk2 := fun {P : Int → Prop} => look (L := [growO (l.map irow)]) (i := 2) (m := c) (P := P) rfl
    refine op_ext3 (fun K hK => growV_live _ _ _ K hK) (J8_13_in (J8_12_in ?_))
    rcases pk with ⟨h1, _, e, hl⟩ | ⟨h1, h2, _, e, hl⟩ | ⟨h1, h2, h3, _, e, hl⟩ | ⟨_, _, _, e⟩
    · cases e
      refine lk0 (bs_yes (by simp; omega) (J8_6_in ?_))
      rw [pBool_bool, if_pos rfl]
      refine J8_11_in (J8_10_in (bs_yes (by simp) (lk0 (J8_9_in (ib_eq_no (by decide) (J8_7_in ?_))))))
      rw [pBool_bool, if_neg (by simp)]
      exact f8_end (lv := 0) (cnt := a) h10' h11' hsz hln hl rfl o0 (by omega) (h _)
    · cases e
      refine lk0 (bs_no (by simp; omega) (J8_6_in ?_))
      rw [pBool_bool, if_neg (by simp)]
      refine lk1 (bs_yes (by simp; omega) (J8_11_in (J8_10_in (bs_no (by simp) (J8_9_in (ib_eq_no (by decide) (J8_7_in ?_)))))))
      rw [pBool_bool, if_neg (by simp)]
      exact f8_end (lv := 1) (many := 1) (cnt := b) h10' h11' hsz hln hl rfl o1 (by omega) (h _)
    · cases e
      refine lk0 (bs_no (by simp; omega) (J8_6_in ?_))
      rw [pBool_bool, if_neg (by simp)]
      refine lk1 (bs_no (by simp; omega) ?_)
      refine lk2 (bs_yes (by simp; omega) (J8_11_in (J8_10_in (bs_no (by simp) (J8_9_in (ib_eq_no (by decide) (J8_7_in ?_)))))))
      rw [pBool_bool, if_neg (by simp)]
      exact f8_end (lv := 2) (many := 1) (cnt := c) h10' h11' hsz hln hl rfl o2 (by omega) (h _)
    · cases e
end

theorem f8_ok {B : Base} {H : Heap} {Q : AV → Heap → Prop} {x0 x1 x2 x3 : Int} (h : Q (.bool true) H) : Cl B 8 [.int .i64 x0, .int .i64 x1, .int .i64 x2, .int .i64 x3] H Q := by
  refine f8_in fun n cl hn hcl hH hA => J8_18_in ?_
  subst hcl
  refine f9_ok ?_
  show J8_17 B (Cl B) n x0 x1 x2 x3 (.bool true) H Q
  refine J8_17_in ?_
  obtain ⟨a, ha, ea⟩ := cnt_ok x0
  obtain ⟨b, hb, eb⟩ := cnt_ok x1
  obtain ⟨c, hc, ec⟩ := cnt_ok x2
  obtain ⟨d, hd, ed⟩ := cnt_ok x3
  rw [if_neg (by decide), if_neg (by decide), if_neg (by decide), if_neg (by decide), ea, eb, ec, ed]
  rw [show layParts _ [(0, 1, .int .i64 (a : Int)), (1, 1, .int .i64 (b : Int)), (2, 1, .int .i64 (c : Int)), (3, 1, .int .i64 (d : Int))] = some (([a, b, c, d] : List Nat).map irow).flatten from rfl, ob_some]
  refine slK_in (J8_16_in (J8_15_in ?_))
  have hl : ([a, b, c, d] : List Nat).length = 4 := rfl
  refine L8_5_tidy (H2 := H ++ [nO [a, b, c, d], .gone]) (f := pick n fun j => j) (y9 := .bool true) (y10 := X10 H) (y11 := .nils) ?_ rfl (x10_low hn (by simp; omega) rfl) rfl ?_
  · refine Cln.pick (L := [nO [a, b, c, d]]) (L2 := [nO [a, b, c, d], .gone]) hn hH (fun j => j) (fun _ _ _ _ h => h) fun j o2 hj => ?_
    match j with
    | 0 => simp only [List.getElem?_cons_zero, Option.some.injEq] at hj; subst hj; exact .inr ⟨rfl, ns_flat hl⟩
    | 1 => simp at hj; exact .inl hj.symm
    | j + 2 => simp at hj
  have o0 : ∀ lv k, ∀ t ∈ mkL lv k, t.Ok := mkL_ok
  refine f8_level (pre := []) (lv := 0) (cnt := a) hn hH hl (by omega) (fun t ht => by simp at ht) (by simp) rfl ha ?_
  refine f8_level (pre := [] ++ mkL 0 a) (lv := 1) (cnt := b) hn hH hl (by omega) (o0 0 a) (by simp [mkL_len]; omega) rfl hb ?_
  refine f8_level (pre := [] ++ mkL 0 a ++ mkL 1 b) (lv := 2) (cnt := c) hn hH hl (by omega) (ok_app (o0 0 a) (o0 1 b)) (by simp [mkL_len]; omega) rfl hc ?_
  refine f8_level (pre := [] ++ mkL 0 a ++ mkL 1 b ++ mkL 2 c) (lv := 3) (cnt := d) hn hH hl (by omega) (ok_app (ok_app (o0 0 a) (o0 1 b)) (o0 2 c)) (by simp [mkL_len]; omega) rfl hd ?_
  refine L8_5_in (ACall.cle B table) (bs_dec (fun h1 => by omega) fun _ => ?_)
  have e : [] ++ mkL 0 a ++ mkL 1 b ++ mkL 2 c ++ mkL 3 d = allC a b c d := by simp [allC]
  rw [e]
  refine f8_rest ha hb hc hd (ns_sl hl) (growV_sl ?_ (tabs_len (allC_ok a b c d))) fun L => ?_
  · rw [get_app]; rfl
  · rw [List.append_assoc]; exact tidy_drop hn hH low_bool h

end Go.Am
