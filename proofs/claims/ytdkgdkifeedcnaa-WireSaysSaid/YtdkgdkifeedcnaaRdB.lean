/- Readers, exactly: takes, number, text of the wire's reader. -/
import Derived.Test.YtdkgdkifeedcnaaWvB
namespace Go.Am
open Go

/-- What a reader has left; is it wrong? -/
abbrev RS : Type := List UInt8 × Bool
def takesF (st : RS) (m : Nat) (ok : Bool) : RS := if (st.2 || !ok) = true then ([], true) else (st.1.drop m, false)
def numP (most : Nat) (st : RS) : Nat × RS :=
  let st' := takesF st (getF st.1).2.1 ((getF st.1).2.2 && decide ((getF st.1).1 ≤ (most : Int)))
  (if st'.2 = true then 0 else (getF st.1).1.toNat, st')
def textP (st : RS) : List UInt8 × RS :=
  let st' := takesF st (textF st.1).2.1 (textF st.1).2.2
  (if st'.2 = true then [] else (textF st.1).1, st')
def pt (p : Nat) : AV := .ptr (some (.new p, 0))
/-- At p a reader. -/
def RdR (B : Base) (H : Heap) (C : Nat → Option AObj) (p : Nat) (st : RS) : Prop := ∃ bv, C p = some (.var [bv, .bool st.2]) ∧ H.length ≤ p ∧ Bs B H bv st.1 ∧ capOK bv
def Keeps1 (C C' : Nat → Option AObj) (p : Nat) : Prop := ∀ q o, q ≠ p → C q = some o → C' q = some o
/-- What is asked behind a reading. -/
def RdK (B : Base) (H G : Heap) (C : Nat → Option AObj) (p : Nat) (st : RS) (P : Heap → (Nat → Option AObj) → Prop) : Prop := ∀ G' C', KW H G' C' → Keeps1 C C' p → RdR B H C' p st → G.length ≤ G'.length → P G' C'

section
variable {B : Base} {n : Nat} {H G : Heap} {C : Nat → Option AObj} {Q : AV → Heap → Prop} {p : Nat} {st : RS}

theorem Keeps1.refl : Keeps1 C C p := fun _ _ _ h => h
theorem Keeps1.upd {C' : Nat → Option AObj} {o : AObj} (h : Keeps1 C C' p) : Keeps1 C (updC C' p o) p := fun q o' hq hc => by rw [updC_ne hq]; exact h q o' hq hc
theorem Keeps1.trans {C' C'' : Nat → Option AObj} (h : Keeps1 C C' p) (h2 : Keeps1 C' C'' p) : Keeps1 C C'' p := fun q o hq hc => h2 q o hq (h q o hq hc)
theorem bs_cells {v : AV} {s : List UInt8} (h : Bs B H v s) : v.cells? = some [v] := by
  obtain ⟨_, ⟨rfl, _⟩ | ⟨o, off, cap, rfl, _⟩⟩ := h <;> rfl
theorem KW.bs {v : AV} {s : List UInt8} (h : KW H G C) (hb : Bs B H v s) : Bs B G v s := by
  obtain ⟨⟨L, rfl⟩, _⟩ := h; exact hb.pre
theorem KW.le (h : KW H G C) : H.length ≤ G.length := by obtain ⟨⟨L, rfl⟩, _⟩ := h; rw [List.length_append]; omega
end
end Go.Am

/- Readers: the package entry's reader. -/
namespace Go.Am
open Go

/-- What is asked behind a reading of the package entry. -/
def EdK (H : Heap) (C : Nat → Option AObj) (p : Nat) (bv : AV) (a : Nat) (w : Bool) (P : Heap → Prop) : Prop := ∀ G' C', KW H G' C' → Keeps1 C C' p → C' p = some (.var [bv, .int .i64 (a : Int), .bool w]) → P G'

section
variable {B : Base} {n : Nat} {H G : Heap} {C : Nat → Option AObj} {Q : AV → Heap → Prop} {p N : Nat}

end
end Go.Am

/- The package entry's Parse: exactly. -/
namespace Go.Am
open Go

def zrow : List AV := [.str [], .str [], .bool false, .int .i64 0]
def zent : Ent := ⟨[], [], false, 0⟩

section
variable {B : Base} {n : Nat} {H G : Heap} {C : Nat → Option AObj} {Q : AV → Heap → Prop} {p N : Nat}

theorem str_u {v : List UInt8} {K : List UInt8 → Prop} (h : K v) : pStr (.str v) K := by rw [pStr_str]; exact h
/-- What Parse answers: the entry, how far, is something wrong? -/
def parseB (s : List UInt8) (dl : Bool) (g : Int × Nat × Bool) (t : List UInt8 × Nat × Bool) : Ent × Nat × Bool :=
  if dl = true then (⟨t.1, [], dl, IntKind.i64.wrap (minInts g.1 [1099511627777])⟩, 1 + g.2.1 + t.2.1, !g.2.2 || !t.2.2)
  else (⟨t.1, (textF (s.drop (1 + g.2.1 + t.2.1))).1, dl, IntKind.i64.wrap (minInts g.1 [1099511627777])⟩, 1 + g.2.1 + t.2.1 + (textF (s.drop (1 + g.2.1 + t.2.1))).2.1, (!g.2.2 || !t.2.2) || !(textF (s.drop (1 + g.2.1 + t.2.1))).2.2)
def parseA (s : List UInt8) (c0 : UInt8) : Ent × Nat × Bool := parseB s (decide ((c0.toNat : Int) = 1)) (getF (s.drop 1)) (textF (s.drop (1 + (getF (s.drop 1)).2.1)))
def parseE (a : Ent × Nat × Bool) : Ent × Nat × Int := if a.2.2 = true ∨ entR a.1 = false then (zent, 0, 2) else (a.1, a.2.1, 0)
def parseF (s : List UInt8) : Ent × Nat × Int :=
  match s with
  | [] => (zent, 0, 2)
  | c0 :: r => if c0.toNat > 1 then (zent, 0, 2) else parseE (parseA (c0 :: r) c0)
def PaQ (H : Heap) (s : List UInt8) (Q : AV → Heap → Prop) : Prop := ∀ L, Q (.tuple [.agg (parseF s).1.row, .int .i64 ((parseF s).2.1 : Int), .int .i64 (parseF s).2.2]) (H ++ L)

end
end Go.Am

/- The wire's reader, exactly: entries, lists. -/
namespace Go.Am
open Go

def entP (st : RS) : Ent × RS := ((parseF st.1).1, takesF st (parseF st.1).2.1 (decide ((parseF st.1).2.2 = 0)))
def listGo {α : Type} (one : RS → α × RS) : Nat → List α → RS → List α × RS
  | 0, acc, st => (acc, st)
  | k + 1, acc, st => if st.2 = true then ([], st) else listGo one k (acc ++ [(one st).1]) (one st).2
def listP {α : Type} (one : RS → α × RS) (most : Nat) (st : RS) : List α × RS := listGo one (numP most st).1 [] (numP most st).2
/-- Slices of which C tells, from k0 on. -/
def SlF (C : Nat → Option AObj) (k0 : Nat) (es : Nat) (v : AV) (rows : List (List AV)) : Prop :=
  (∀ r, r ∈ rows → r.length = es) ∧ ((v = .nils ∧ rows = []) ∨ ∃ j cap, v = .slice (.new j) 0 rows.length es cap ∧ k0 ≤ j ∧ C j = some (.arr rows.flatten))
theorem SlF.mono {C C' : Nat → Option AObj} {k0 k1 es : Nat} {v : AV} {rows : List (List AV)} (h : SlF C k0 es v rows) (hk : k1 ≤ k0) (hc : ∀ j o, k0 ≤ j → C j = some (.arr o) → C' j = some (.arr o)) : SlF C' k1 es v rows := by
  obtain ⟨h0, h1 | ⟨j, cap, rfl, h2, h3⟩⟩ := h
  · exact ⟨h0, .inl h1⟩
  · exact ⟨h0, .inr ⟨j, cap, rfl, by omega, hc j _ h2 h3⟩⟩
theorem SlF.sl {B : Base} {H G : Heap} {C : Nat → Option AObj} {k0 es : Nat} {v : AV} {rows : List (List AV)} (h : SlF C k0 es v rows) (k : KW H G C) : Sl B G es v rows := by
  obtain ⟨h0, h1 | ⟨j, cap, rfl, h2, h3⟩⟩ := h
  · exact ⟨h0, .inl h1⟩
  · exact ⟨h0, .inr ⟨_, _, _, rfl, cellsAt_iff'.2 ⟨rows.flatten, by simp only [cellsOf, k.cs j _ h3], by rw [flatten_len h0]; omega, by rw [List.drop_zero, ← flatten_len h0, List.take_length]⟩⟩⟩
theorem SlF.isL {C : Nat → Option AObj} {k0 es : Nat} {v : AV} {rows : List (List AV)} (h : SlF C k0 es v rows) : v = .nils ∨ ∃ o off len cap, v = .slice o off len es cap := by
  obtain ⟨_, ⟨rfl, _⟩ | ⟨j, cap, rfl, _⟩⟩ := h
  · exact .inl rfl
  · exact .inr ⟨_, _, _, _, rfl⟩
/-- A slice that is being built, of which C does not tell. -/
structure AccA (H G : Heap) (C : Nat → Option AObj) (k0 es : Nat) (v : AV) (rows : List (List AV)) : Prop where
  len : ∀ r, r ∈ rows → r.length = es
  or : (v = .nils ∧ rows = []) ∨ ∃ q, v = .slice (.new q) 0 rows.length es none ∧ k0 ≤ q ∧ H.length ≤ q ∧ G[q]? = some (.arr rows.flatten) ∧ C q = none
abbrev MM : Type := Nat → AV → List (List AV) → Prop
def LE {α : Type} (es : Nat) (E : MM → List AV → α → Prop) (M : MM) (v : AV) (l : List α) : Prop := ∃ cs, M es v cs ∧ F2 (E M) cs l
def LV {α : Type} (E : MM → AV → α → Prop) (M : MM) (v : AV) (l : List α) : Prop := ∃ us, M 1 v (us.map fun u => [u]) ∧ F2 (E M) us l
theorem F2.snoc {α β : Type} {R : α → β → Prop} {l : List α} {m : List β} {x : α} {y : β} (h : F2 R l m) (hxy : R x y) : F2 R (l ++ [x]) (m ++ [y]) := by
  obtain ⟨h1, h2⟩ := h
  refine ⟨by simp [h1], fun i a b ha hb => ?_⟩
  rcases Nat.lt_trichotomy i l.length with hi | hi | hi
  · rw [List.getElem?_append_left hi] at ha
    rw [List.getElem?_append_left (by omega)] at hb
    exact h2 i a b ha hb
  · subst hi
    rw [List.getElem?_append_right (Nat.le_refl _), Nat.sub_self] at ha
    rw [h1, List.getElem?_append_right (Nat.le_refl _), Nat.sub_self] at hb
    cases ha; cases hb; exact hxy
  · rw [List.getElem?_eq_none (by simp; omega)] at ha; cases ha

section
variable {B : Base} {n : Nat} {H G : Heap} {C : Nat → Option AObj} {Q : AV → Heap → Prop} {p : Nat} {st : RS}

theorem AccA.back {k0 es : Nat} {v : AV} {rows : List (List AV)} {c : List AV} (a : AccA H G C k0 es v rows) (k : KW H G C) (hp : C p = some (.var c)) : ∃ C1, KW H G C1 ∧ (∀ j o, C j = some o → C1 j = some o) ∧ SlF C1 k0 es v rows ∧
    ∀ G' C', KW H G' C' → Keeps1 C1 C' p → ∃ C2, KW H G' C2 ∧ AccA H G' C2 k0 es v rows ∧ (∀ j o, (G.length ≤ j ∨ C j ≠ none) → C' j = some o → C2 j = some o) := by
  obtain ⟨h0, ⟨rfl, rfl⟩ | ⟨q, rfl, h1, h2, h3, h4⟩⟩ := a
  · exact ⟨C, k, fun _ _ h => h, ⟨h0, .inl ⟨rfl, rfl⟩⟩, fun G' C' k' _ => ⟨C', k', ⟨h0, .inl ⟨rfl, rfl⟩⟩, fun _ _ _ h => h⟩⟩
  · have hqp : q ≠ p := fun e => by subst e; rw [hp] at h4; cases h4
    have hlt := lt_of_get h3
    refine ⟨updC C q (.arr rows.flatten), ⟨k.pre, fun j o hj => ?_⟩, fun j o hj => ?_, ⟨h0, .inr ⟨q, none, rfl, h1, updC_at⟩⟩, fun G' C' k' e' => ?_⟩
    · unfold updC at hj
      split at hj
      · rename_i e; subst e; cases hj; exact h3
      · exact k.cs j o hj
    · rw [updC_ne (fun e => by subst e; rw [h4] at hj; cases hj)]; exact hj
    · refine ⟨fun j => if j = q then none else C' j, ⟨k'.pre, fun j o hj => ?_⟩, ⟨h0, .inr ⟨q, rfl, h1, h2, k'.cs q _ (e' q _ hqp updC_at), if_pos rfl⟩⟩, fun j o hor hj => ?_⟩
      · change (if j = q then none else C' j) = some o at hj
        split at hj
        · cases hj
        · exact k'.cs j o hj
      · show (if j = q then none else C' j) = some o
        rw [if_neg]
        · exact hj
        · intro e; subst e
          rcases hor with h | h
          · omega
          · exact h h4
theorem op_appA {K : AV → Heap → Prop} {k0 es bytes : Nat} {v u : AV} {rows rows2 : List (List AV)} (h : KW H G C) (hg : AccA H G C k0 es v rows) (hk0 : k0 ≤ G.length) (hu : Sl B G es u rows2) (hne : rows2 ≠ []) (hb : (rows.length + rows2.length) * bytes ≤ maxBytes)
    (hk : ∀ v' G', KW H G' C → AccA H G' C k0 es v' (rows ++ rows2) → G.length ≤ G'.length → K v' G') : aop B E0 G K (.append es bytes (.const v) (.const u)) := by
  have hl2 := flatten_len hu.1
  have hn2 : rows2.length ≠ 0 := by intro e; exact hne (List.length_eq_zero_iff.1 e)
  have hHG := h.le
  have hrows : ∀ r, r ∈ rows ++ rows2 → r.length = es := fun r hm => (List.mem_append.1 hm).elim (hg.1 r) (hu.1 r)
  have hfree : C G.length = none := by
    cases e : C G.length with
    | none => rfl
    | some o => have := h.lt e; omega
  obtain ⟨h0, ⟨rfl, rfl⟩ | ⟨q, rfl, hq0, hq, hgq, hcq⟩⟩ := hg
  · refine op_app hu.len hu.elems hl2 (appendTo_nil hn2 (by simpa using hb)) (hk _ _ (h.grow _) ⟨hrows, .inr ⟨G.length, by simp, hk0, hHG, by rw [get_app0]; simp, hfree⟩⟩ (by rw [List.length_append]; omega))
  · have hc : cellsAt B G (.new q) 0 (rows.length * es) = some rows.flatten :=
      cellsAt_iff'.2 ⟨rows.flatten, by simp only [cellsOf, hgq], by rw [flatten_len h0]; omega, by rw [List.drop_zero, ← flatten_len h0, List.take_length]⟩
    have hlen : (G.set q AObj.gone).length = G.length := List.length_set
    have h2 : KW H (G.set q .gone) C := by
      obtain ⟨⟨L, rfl⟩, hcs⟩ := h
      exact ⟨set_preL hq, fun j o hj => by rw [get_set_ne (fun e => by subst e; rw [hcq] at hj; cases hj)]; exact hcs j o hj⟩
    refine op_app hu.len hu.elems hl2 (appendTo_own hn2 hb hc) (hk _ _ (h2.grow _) ⟨hrows, .inr ⟨G.length, by rw [List.length_append], hk0, hHG, ?_, hfree⟩⟩ (by rw [List.length_append, hlen]; omega))
    rw [← hlen, get_app0]; simp

theorem int_i {v : Int} {K : Int → Prop} (h : K v) : pInt .i64 (.int .i64 v) K := by rw [pInt_int]; exact h
theorem live_agg' {l : List AV} {K : AV → Prop} (h : K (.agg l)) : pLive (.agg l) K := h
theorem op_extA {K : AV → Heap → Prop} {l : List AV} {i : Nat} {v : AV} (h : l[i]? = some v) (hk : K v G) : aop B E0 G K (.extract none i (.const (.tuple l))) := by
  simp only [aop, opK, Opd.look, ob_some, h]
  exact hk
theorem keeps_add {o : AObj} (h : KW H G C) : ∀ q o', C q = some o' → updC C G.length o q = some o' := fun q o' hc => by
  have := h.lt hc
  rw [updC_ne (by omega)]; exact hc
theorem RdR.mono {C' : Nat → Option AObj} (h : RdR B H C p st) (hc : ∀ o, C p = some o → C' p = some o) : RdR B H C' p st := by
  obtain ⟨bv, h1, h2⟩ := h
  exact ⟨bv, hc _ h1, h2⟩
theorem live_isL {v : AV} {K : AV → Prop} (h : v = .nils ∨ ∃ o off len es cap, v = .slice o off len es cap) (hk : K v) : pLive v K := by
  obtain rfl | ⟨o, off, len, es, cap, rfl⟩ := h
  · exact hk
  · exact hk
theorem cells_isL {v : AV} (h : v = .nils ∨ ∃ o off len es cap, v = .slice o off len es cap) : v.cells? = some [v] := by
  obtain rfl | ⟨o, off, len, es, cap, rfl⟩ := h <;> rfl

/-- What one reading of a list's element answers. -/
def OneK {α X : Type} (B : Base) (H : Heap) (p : Nat) (fv : AV) (val : X → AV) (E : MM → X → α → Prop) (one : RS → α × RS) (Inv : (Nat → Option AObj) → Prop) : Prop :=
  ∀ (G : Heap) (C : Nat → Option AObj) (st : RS) (Q : AV → Heap → Prop), KW H G C → RdR B H C p st → st.1.length ≤ 1000000 → Inv C →
    (∀ G' C' x, KW H G' C' → Keeps1 C C' p → RdR B H C' p (one st).2 → G.length ≤ G'.length → E (SlF C' G.length) x (one st).1 → Q (val x) G') → calleeK B E0 G [] (fun g z => Cl B g z G Q) (.val (.const fv))

end

end Go.Am

/- The wire's reader, exactly: digests, openings, points, spans, rows. -/
namespace Go.Am
open Go

/-! ### What is told, of any memory -/
def BsM (M : MM) (v : AV) (s : List UInt8) : Prop := M 1 v (s.map brw)
def PathM (M : MM) (v : AV) (l : List (List UInt8)) : Prop := M 32 v (l.map dg)
def OpM (M : MM) (c : List AV) (o : Opn) : Prop := ∃ lv pv, c = [.int .i64 o.at_, lv, pv] ∧ BsM M lv o.leaf ∧ PathM M pv o.path
def PtM (M : MM) (c : List AV) (p : Pnt) : Prop := ∃ ca cb, c = .bool p.btw :: (ca ++ cb) ∧ OpM M ca p.a ∧ OpM M cb p.b
def SnM (M : MM) (c : List AV) (x : Spn) : Prop := ∃ lv pv, c = [.int .i64 x.frm, lv, pv] ∧ LV BsM M lv x.leaves ∧ PathM M pv x.path
def EsM (M : MM) (v : AV) (l : List Ent) : Prop := M 4 v (l.map Ent.row)
section
variable {M M' : MM} (h : ∀ es v rows, M es v rows → M' es v rows)
include h
theorem BsM.mono {v : AV} {s : List UInt8} (a : BsM M v s) : BsM M' v s := h _ _ _ a
theorem PathM.mono {v : AV} {s : List (List UInt8)} (a : PathM M v s) : PathM M' v s := h _ _ _ a
theorem OpM.mono {c : List AV} {o : Opn} (a : OpM M c o) : OpM M' c o := by
  obtain ⟨lv, pv, e, h1, h2⟩ := a
  exact ⟨lv, pv, e, h _ _ _ h1, h _ _ _ h2⟩
theorem PtM.mono {c : List AV} {o : Pnt} (a : PtM M c o) : PtM M' c o := by
  obtain ⟨lv, pv, e, h1, h2⟩ := a
  exact ⟨lv, pv, e, h1.mono h, h2.mono h⟩
theorem LE.mono {α : Type} {es : Nat} {E : MM → List AV → α → Prop} (hE : ∀ x a, E M x a → E M' x a) {v : AV} {l : List α} (a : LE es E M v l) : LE es E M' v l := by
  obtain ⟨cs, h1, h2⟩ := a
  exact ⟨cs, h _ _ _ h1, h2.mono hE⟩
theorem LV.mono {α : Type} {E : MM → AV → α → Prop} (hE : ∀ x a, E M x a → E M' x a) {v : AV} {l : List α} (a : LV E M v l) : LV E M' v l := by
  obtain ⟨cs, h1, h2⟩ := a
  exact ⟨cs, h _ _ _ h1, h2.mono hE⟩
theorem SnM.mono {c : List AV} {o : Spn} (a : SnM M c o) : SnM M' c o := by
  obtain ⟨lv, pv, e, h1, h2⟩ := a
  exact ⟨lv, pv, e, h1.mono h fun _ _ h3 => h3.mono h, h _ _ _ h2⟩
end

/-! ### What is read -/
def digP (st : RS) : List UInt8 × RS := (st.1.take 32 ++ List.replicate (32 - min st.1.length 32) 0, takesF st (min st.1.length 32) (decide (((min st.1.length 32 : Nat) : Int) = 32)))
def pathP (st : RS) : List (List UInt8) × RS := listP digP 64 st
def opP (st : RS) : Opn × RS := (⟨((numP 1099511627776 st).1 : Int), (textP (numP 1099511627776 st).2).1, (pathP (textP (numP 1099511627776 st).2).2).1⟩, (pathP (textP (numP 1099511627776 st).2).2).2)
def ptP (st : RS) : Pnt × RS :=
  if (numP 1 st).1 = 1 then (⟨true, (opP (numP 1 st).2).1, (opP (opP (numP 1 st).2).2).1⟩, (opP (opP (numP 1 st).2).2).2)
  else (⟨false, (opP (numP 1 st).2).1, ⟨0, [], []⟩⟩, (opP (numP 1 st).2).2)
def spP (st : RS) : Spn × RS := (⟨((numP 1099511627776 st).1 : Int), (listP textP 64 (numP 1099511627776 st).2).1, (pathP (listP textP 64 (numP 1099511627776 st).2).2).1⟩, (pathP (listP textP 64 (numP 1099511627776 st).2).2).2)
def rowP (st : RS) : List Ent × RS := listP entP 64 st
section
variable {B : Base} {n : Nat} {H G : Heap} {C : Nat → Option AObj} {Q : AV → Heap → Prop} {p : Nat} {st : RS}

theorem slF_isL {k0 es : Nat} {v : AV} {rows : List (List AV)} (h : SlF C k0 es v rows) : v = .nils ∨ ∃ o off len es cap, v = .slice o off len es cap := by
  obtain h1 | ⟨o, off, len, cap, h1⟩ := h.isL
  · exact .inl h1
  · exact .inr ⟨o, off, len, es, cap, h1⟩
theorem SlF.upd {k0 x1 : Nat} {z : List AV} {o : AObj} (c1 : C x1 = some (.var z)) : ∀ es v rows, SlF C k0 es v rows → SlF (updC C x1 o) k0 es v rows := fun es v rows h =>
  h.mono (Nat.le_refl _) fun j o' _ hj => by rw [updC_ne (fun e => by subst e; rw [c1] at hj; cases hj)]; exact hj
theorem SlF.add {k0 : Nat} {o : AObj} (k : KW H G C) : ∀ es v rows, SlF C k0 es v rows → SlF (updC C G.length o) k0 es v rows := fun es v rows h =>
  h.mono (Nat.le_refl _) fun j o' _ hj => keeps_add k j _ hj
theorem SlF.keep {C' : Nat → Option AObj} {k0 : Nat} {z : List AV} (c1 : C p = some (.var z)) (e : Keeps1 C C' p) : ∀ es v rows, SlF C k0 es v rows → SlF C' k0 es v rows := fun es v rows h =>
  h.mono (Nat.le_refl _) fun j o' _ hj => e j _ (fun e => by subst e; rw [c1] at hj; cases hj) hj
theorem SlF.low {k0 k1 : Nat} (hk : k1 ≤ k0) : ∀ es v rows, SlF C k0 es v rows → SlF C k1 es v rows := fun es v rows h => h.mono hk fun _ _ _ h => h
theorem RdR.var (h : RdR B H C p st) : ∃ z, C p = some (.var z) := by obtain ⟨bv, h1, _⟩ := h; exact ⟨_, h1⟩

theorem OpM.three {M : MM} {c : List AV} {o : Opn} (h : OpM M c o) : c.length = 3 := by obtain ⟨_, _, rfl, _⟩ := h; rfl
end
end Go.Am

/- The wire's reader, exactly: points, spans, rows. -/
namespace Go.Am
open Go

section
variable {B : Base} {n : Nat} {H G : Heap} {C : Nat → Option AObj} {Q : AV → Heap → Prop} {p : Nat} {st : RS}

theorem SnM.three {M : MM} {c : List AV} {o : Spn} (h : SnM M c o) : c.length = 3 := by obtain ⟨_, _, rfl, _⟩ := h; rfl

end
end Go.Am

/- The wire's reader, exactly: what a kind has; SayOf. -/
namespace Go.Am
open Go

def RpM (M : MM) (c : List AV) (r : Rpl) : Prop := ∃ v3 v4 v5 v6 v7 v8, c = [.int .i64 r.err, .int .i64 r.last, .int .i64 r.epoch, v3, v4, v5, v6, v7, v8] ∧
  BsM M v3 r.psum ∧ LE 7 PtM M v4 r.pts ∧ BsM M v5 r.ssum ∧ LE 3 SnM M v6 r.sns ∧ BsM M v7 r.sum ∧ LV EsM M v8 r.rows
theorem RpM.mono {M M' : MM} (h : ∀ es v rows, M es v rows → M' es v rows) {c : List AV} {r : Rpl} (a : RpM M c r) : RpM M' c r := by
  obtain ⟨v3, v4, v5, v6, v7, v8, e, r3, r4, r5, r6, r7, r8⟩ := a
  exact ⟨v3, v4, v5, v6, v7, v8, e, h _ _ _ r3, r4.mono h fun _ _ x => x.mono h, h _ _ _ r5, r6.mono h fun _ _ x => x.mono h, h _ _ _ r7, r8.mono h fun _ _ x => h _ _ _ x⟩
theorem RpM.r {B : Base} {G : Heap} {c : List AV} {r : Rpl} (a : RpM (Sl B G) c r) : RpR B G c r := a

abbrev big : Nat := 1099511627776
def rq2 (t : List UInt8) (l : List Pnt) : Rpl := ⟨0, 0, 0, t, l, [], [], [], []⟩
def rq3 (t : List UInt8) (l : List Spn) : Rpl := ⟨0, 0, 0, [], [], t, l, [], []⟩
def rq5 (e : Int) (t : List UInt8) (l : List (List Ent)) : Rpl := ⟨0, 0, e, [], [], [], [], t, l⟩
def bodyP (k : Int) (st : RS) : Rpl × RS :=
  if k = 1 then (rp3 0 (numP 1099511627776 st).1 0, (numP 1099511627776 st).2)
  else if k = 2 then (rq2 (textP st).1 (listP ptP 512 (textP st).2).1, (listP ptP 512 (textP st).2).2)
  else if k = 3 then (rq3 (textP st).1 (listP spP 512 (textP st).2).1, (listP spP 512 (textP st).2).2)
  else if k = 4 then (rq5 (numP 1099511627776 st).1 (textP (numP 1099511627776 st).2).1 [], (textP (numP 1099511627776 st).2).2)
  else if k = 5 then (rq5 (numP 1099511627776 st).1 (textP (numP 1099511627776 st).2).1 (listP rowP 512 (textP (numP 1099511627776 st).2).2).1, (listP rowP 512 (textP (numP 1099511627776 st).2).2).2)
  else if k = 6 then (rp3 0 (numP 1099511627776 st).1 (numP 1099511627776 (numP 1099511627776 st).2).1, (numP 1099511627776 (numP 1099511627776 st).2).2)
  else (rp3 0 0 0, st)
def sayOfP (k : Int) (s : List UInt8) : Rpl × RS := if (numP 10 (s, false)).1 = 0 then bodyP k (numP 10 (s, false)).2 else (rp3 (numP 10 (s, false)).1 0 0, (numP 10 (s, false)).2)
def sayGood (k : Int) (s : List UInt8) : Bool := !(sayOfP k s).2.2 && (!(sayW k (sayOfP k s).1) && sayF k (sayOfP k s).1 == s)

/-! ### Sizes -/
theorem rp3_ok' {e l p : Int} (he : e ≤ 9223372036854775807) (hl : l ≤ 9223372036854775807) (hp : p ≤ 9223372036854775807) : RpOk (rp3 e l p) := rp3_ok he hl hp
section
variable {B : Base} {n : Nat} {H G : Heap} {C : Nat → Option AObj} {Q : AV → Heap → Prop} {p : Nat} {st : RS}

/-- What is asked behind the reading of what a kind has. -/
def BdK (B : Base) (H G : Heap) (C : Nat → Option AObj) (p x2 : Nat) (r : Rpl × RS) (Q : AV → Heap → Prop) : Prop :=
  ∀ c G' C', KW H G' C' → (∀ q o, q ≠ p → q ≠ x2 → C q = some o → C' q = some o) → C' x2 = some (.var c) → RdR B H C' p r.2 → G.length ≤ G'.length → RpM (SlF C' 0) c r.1 → Q (.tuple []) G'

end
end Go.Am

/- SayOf, exactly. -/
namespace Go.Am
open Go

section
variable {B : Base} {n : Nat} {H G : Heap} {C : Nat → Option AObj} {Q : AV → Heap → Prop} {p x4 x7 : Nat} {s : List UInt8} {b : AV} {kind : Int}

theorem RpM.len {M : MM} {c : List AV} {r : Rpl} (a : RpM M c r) : c.length = 9 := by
  obtain ⟨_, _, _, _, _, _, rfl, _⟩ := a; rfl
theorem RpM.sl {c : List AV} {r : Rpl} {k0 : Nat} (a : RpM (SlF C k0) c r) (k : KW H G C) : RpR B G c r := RpM.r (a.mono fun _ _ _ h => h.sl k)
/-- What SayOf answers. -/
def SoQ (B : Base) (H : Heap) (kind : Int) (s : List UInt8) (Q : AV → Heap → Prop) : Prop :=
  (sayGood kind s = false → ∀ L, Q (.tuple [.agg (row3 0 0 0), .int .i64 2]) (H ++ L)) ∧ (sayGood kind s = true → ∀ c L, RpR B (H ++ L) c (sayOfP kind s).1 → Q (.tuple [.agg c, .int .i64 0]) (H ++ L))

end
end Go.Am

/- AskOf, exactly. -/
namespace Go.Am
open Go

def zq : List AV := [.int .i64 0, .nils, .str [], .str [], .str [], .int .i64 0]
def askP (k : Int) (st : RS) : Rq × RS :=
  if k = 1 then (⟨k, (listP entP 32 st).1, [], [], [], 0⟩, (listP entP 32 st).2)
  else if k = 2 then (⟨k, [], (textP st).1, [], [], 0⟩, (textP st).2)
  else if k = 3 then (⟨k, [], [], (textP st).1, (textP (textP st).2).1, 0⟩, (textP (textP st).2).2)
  else if k = 4 ∨ k = 5 then (⟨k, [], [], [], [], ((numP 1099511627776 st).1 : Int)⟩, (numP 1099511627776 st).2)
  else (⟨k, [], [], [], [], 0⟩, st)
def askOfP (s : List UInt8) : Rq × RS := match s with
  | [] => (⟨0, [], [], [], [], 0⟩, ([], true))
  | c0 :: r => askP (c0.toNat : Int) (r, false)
def askGood (s : List UInt8) : Bool := !(askOfP s).2.2 && (!(akW (askOfP s).1) && akF (askOfP s).1 == s)
def RqOk (r : Rq) : Prop := r.epoch ≤ 9223372036854775807 ∧ r.ents.length ≤ 50 ∧ r.key.length ≤ 1000000 ∧ r.lo.length ≤ 1000000 ∧ r.hi.length ≤ 1000000
/-- What AskOf answers. -/
def AskQ (B : Base) (H : Heap) (s : List UInt8) (Q : AV → Heap → Prop) : Prop :=
  (askGood s = false → ∀ L, Q (.tuple [.agg zq, .int .i64 2]) (H ++ L)) ∧ (askGood s = true → ∀ (ev : AV) L, Sl B (H ++ L) 4 ev ((askOfP s).1.ents.map Ent.row) → Q (.tuple [.agg ((askOfP s).1.row ev), .int .i64 0]) (H ++ L))
section
variable {B : Base} {n : Nat} {H G : Heap} {C : Nat → Option AObj} {Q : AV → Heap → Prop} {p x2 x5 : Nat} {s : List UInt8} {b : AV}

/-- All that the last step needs. -/
structure AskS (B : Base) (H G : Heap) (C : Nat → Option AObj) (x2 p x5 : Nat) (r : Rq) (ev : AV) (st : RS) : Prop where
  kw : KW H G C
  c2 : C x2 = some (.var zq)
  c5 : C x5 = some (.var (r.row ev))
  rd : RdR B H C p st
  gr : SlF C 0 4 ev (r.ents.map Ent.row)
  h2 : H.length ≤ x2
  h5 : H.length ≤ x5
  n25 : x2 ≠ x5
  n2p : x2 ≠ p
  n5p : x5 ≠ p

/-- A field of the request is written. -/
theorem AskS.put {r r' : Rq} {ev ev' : AV} {st : RS} (h : AskS B H G C x2 p x5 r ev st) {off : Nat} {v : AV} (hp : putAt (r.row ev) (0 + off) [v] = r'.row ev') (hv : v.cells? = some [v]) (hoff : off < 6) (hg : SlF C 0 4 ev' (r'.ents.map Ent.row))
    {K : AV → Heap → Prop} (hk : ∀ G' C', AskS B H G' C' x2 p x5 r' ev' st → K .dead G') : aop B E0 G (fun v42 _ => aop B E0 G K (.st 1 (.const v42) (.const v))) (.fieldPtr off (.const (pt x5))) := by
  refine op_fldP ?_
  refine op_st (c := r.row ev) (vs := [v]) hv rfl (h.kw.cs x5 _ h.c5) (by simp only [Rq.row, List.length_cons, List.length_nil]; omega) ?_
  rw [hp]
  exact hk _ _ ⟨h.kw.set h.c5 h.h5 _, by rw [updC_ne h.n25]; exact h.c2, updC_at, h.rd.mono fun o ho => by rw [updC_ne (Ne.symm h.n5p)]; exact ho, SlF.upd h.c5 _ _ _ hg, h.h2, h.h5, h.n25, h.n2p, h.n5p⟩
/-- Behind a reading. -/
theorem AskS.read {r : Rq} {ev : AV} {st st' : RS} (h : AskS B H G C x2 p x5 r ev st) {G' : Heap} {C' : Nat → Option AObj} (k : KW H G' C') (e : Keeps1 C C' p) (rd : RdR B H C' p st') : AskS B H G' C' x2 p x5 r ev st' := by
  obtain ⟨z, hz⟩ := h.rd.var
  exact ⟨k, e x2 _ h.n2p h.c2, e x5 _ h.n5p h.c5, rd, SlF.keep hz e _ _ _ h.gr, h.h2, h.h5, h.n25, h.n2p, h.n5p⟩

end
end Go.Am
