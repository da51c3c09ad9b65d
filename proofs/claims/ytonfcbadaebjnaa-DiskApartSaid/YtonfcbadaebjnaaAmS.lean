/- Laws of the abstract machine's operations, for those who walk. -/
import Derived.Test.YtonfcbadaebjnaaAm16
import Derived.IntWalk
namespace Go.Am
open Go

theorem w64 {n : Int} (h : -9223372036854775808 ≤ n ∧ n ≤ 9223372036854775807) : IntKind.i64.wrap n = n := IntWalk.i64_in n h

/-! ### Memory -/
theorem get_app {H : Heap} {L : List AObj} (j : Nat) : (H ++ L)[H.length + j]? = L[j]? := by
  rw [List.getElem?_append_right (by omega)]; congr 1; omega
theorem get_app0 {H : Heap} {L : List AObj} : (H ++ L)[H.length]? = L[0]? := get_app 0
theorem get_low {H L : Heap} {k : Nat} (h : k < H.length) : (H ++ L)[k]? = H[k]? := List.getElem?_append_left h
theorem lt_of_get {H : Heap} {k : Nat} {o : AObj} (h : H[k]? = some o) : k < H.length := by
  rcases Nat.lt_or_ge k H.length with h' | h'
  · exact h'
  · rw [List.getElem?_eq_none h'] at h; cases h
theorem get_pre {H L : Heap} {k : Nat} {o : AObj} (h : H[k]? = some o) : (H ++ L)[k]? = some o := by rw [get_low (lt_of_get h)]; exact h
theorem set_app {H : Heap} {L : List AObj} (j : Nat) (o : AObj) : (H ++ L).set (H.length + j) o = H ++ L.set j o := by
  rw [List.set_append_right _ _ (by omega)]; congr 2; omega
theorem set_app0 {H : Heap} {L : List AObj} (o : AObj) : (H ++ L).set H.length o = H ++ L.set 0 o := set_app 0 o

/-- Cells of an object, in a memory that grows. -/
theorem cellsOf_pre {B : Base} {H L : Heap} {o : Id} {c : List AV} (h : cellsOf B H o = some c) : cellsOf B (H ++ L) o = some c := by
  cases o with
  | base b s => exact h
  | new k =>
    simp only [cellsOf] at h ⊢
    cases hk : H[k]? with
    | none => rw [hk] at h; cases h
    | some o => rw [hk] at h; rw [get_pre hk]; exact h
theorem cellsAt_iff' {B : Base} {H : Heap} {o : Id} {i n : Nat} {c : List AV} : cellsAt B H o i n = some c ↔ ∃ cs, cellsOf B H o = some cs ∧ i + n ≤ cs.length ∧ c = (cs.drop i).take n := by
  unfold cellsAt
  cases cellsOf B H o with
  | none => simp
  | some cs =>
    simp only [Option.some.injEq, exists_eq_left']
    split
    · rename_i h; simp only [Option.some.injEq]; exact ⟨fun e => ⟨h, e.symm⟩, fun e => e.2.symm⟩
    · rename_i h; simp only [reduceCtorEq, false_iff]; exact fun e => h e.1
theorem cellsAt_pre {B : Base} {H L : Heap} {o : Id} {i n : Nat} {c : List AV} (h : cellsAt B H o i n = some c) : cellsAt B (H ++ L) o i n = some c := by
  rw [cellsAt_iff'] at h ⊢
  obtain ⟨cs, h1, h2, h3⟩ := h
  exact ⟨cs, cellsOf_pre h1, h2, h3⟩
/-- A part of what is there. -/
theorem cellsAt_sub {B : Base} {H : Heap} {o : Id} {i n : Nat} {c : List AV} (h : cellsAt B H o i n = some c) {j m : Nat} (hj : j + m ≤ n) : cellsAt B H o (i + j) m = some ((c.drop j).take m) := by
  obtain ⟨cs, h1, h2, rfl⟩ := cellsAt_iff'.1 h
  refine cellsAt_iff'.2 ⟨cs, h1, by omega, ?_⟩
  rw [List.drop_take, List.take_take, List.drop_drop]
  congr 1; omega

/-- A place where a row of cells stands. -/
def El (B : Base) (H : Heap) (p : AV) (row : List AV) : Prop := ∃ o i, p = .ptr (some (o, i)) ∧ cellsAt B H o i row.length = some row
theorem El.pre {B : Base} {H L : Heap} {p : AV} {row : List AV} (h : El B H p row) : El B (H ++ L) p row := by
  obtain ⟨o, i, rfl, h⟩ := h
  exact ⟨o, i, rfl, cellsAt_pre h⟩
theorem El.peekN {B : Base} {H : Heap} {p : AV} {row : List AV} {n : Nat} (h : El B H p row) (hn : row.length = n) : peekN B H n p = some row := by
  subst hn
  obtain ⟨o, i, rfl, h⟩ := h
  exact h
theorem El.cell {B : Base} {H : Heap} {o : Id} {i : Nat} {row : List AV} (h : El B H (.ptr (some (o, i))) row) {j : Nat} {v : AV} (hv : row[j]? = some v) : peek B H (.ptr (some (o, i + j))) = some v := by
  obtain ⟨o', i', e, h⟩ := h
  cases e
  obtain ⟨cs, h1, h2, h3⟩ := cellsAt_iff'.1 h
  simp only [peek, h1, Option.bind_some]
  rw [h3] at hv
  rw [List.getElem?_take] at hv
  split at hv
  · rw [List.getElem?_drop] at hv; exact hv
  · cases hv
theorem El.peek0 {B : Base} {H : Heap} {p : AV} {row : List AV} {v : AV} (h : El B H p row) (hv : row[0]? = some v) : peek B H p = some v := by
  obtain ⟨o, i, rfl, h⟩ := h
  exact El.cell ⟨o, i, rfl, h⟩ hv
theorem El.new {B : Base} {H : Heap} {k : Nat} {c : List AV} (h : H[k]? = some (.var c)) : El B H (.ptr (some (.new k, 0))) c :=
  ⟨_, _, rfl, cellsAt_iff'.2 ⟨c, by simp only [cellsOf, h], by omega, by simp⟩⟩

/-- A slice of rows. -/
def Sl (B : Base) (H : Heap) (es : Nat) (v : AV) (rows : List (List AV)) : Prop :=
  (∀ r, r ∈ rows → r.length = es) ∧ ((v = .nils ∧ rows = []) ∨ ∃ o off cap, v = .slice o off rows.length es cap ∧ cellsAt B H o off (rows.length * es) = some rows.flatten)

theorem Sl.pre {B : Base} {H L : Heap} {es : Nat} {v : AV} {rows : List (List AV)} (h : Sl B H es v rows) : Sl B (H ++ L) es v rows := by
  obtain ⟨h0, h | ⟨o, off, cap, h1, h2⟩⟩ := h
  · exact ⟨h0, .inl h⟩
  · exact ⟨h0, .inr ⟨o, off, cap, h1, cellsAt_pre h2⟩⟩
theorem Sl.len {B : Base} {H : Heap} {es : Nat} {v : AV} {rows : List (List AV)} (h : Sl B H es v rows) : lenOf v = some rows.length := by
  obtain ⟨h0, ⟨rfl, rfl⟩ | ⟨o, off, cap, rfl, h2⟩⟩ := h <;> rfl
theorem Sl.elems {B : Base} {H : Heap} {es : Nat} {v : AV} {rows : List (List AV)} (h : Sl B H es v rows) : elemsOf B H v = some rows.flatten := by
  obtain ⟨h0, ⟨rfl, rfl⟩ | ⟨o, off, cap, rfl, h2⟩⟩ := h
  · rfl
  · exact h2
theorem flatten_len {es : Nat} : ∀ {rows : List (List AV)}, (∀ r, r ∈ rows → r.length = es) → rows.flatten.length = rows.length * es
  | [], _ => by simp
  | r :: l, h => by
    simp only [List.flatten_cons, List.length_append, List.length_cons, h r (List.mem_cons_self ..), flatten_len (fun x hx => h x (List.mem_cons_of_mem _ hx))]
    rw [Nat.add_mul]; omega
theorem flatten_row {es : Nat} : ∀ {rows : List (List AV)}, (∀ r, r ∈ rows → r.length = es) → ∀ {i : Nat} {row : List AV}, rows[i]? = some row → (rows.flatten.drop (i * es)).take es = row
  | [], _, i, row, h => by simp at h
  | r :: l, hl, 0, row, h => by
    simp at h; subst h
    have := hl r (List.mem_cons_self ..)
    simp [← this]
  | r :: l, hl, i + 1, row, h => by
    simp only [List.getElem?_cons_succ] at h
    have hr := hl r (List.mem_cons_self ..)
    rw [List.flatten_cons, ← flatten_row (fun x hx => hl x (List.mem_cons_of_mem _ hx)) h, Nat.add_mul, Nat.one_mul, List.drop_append, List.drop_of_length_le (by omega)]
    simp only [List.nil_append]
    congr 2; omega
/-- Where an element stands; where a field does. -/
def ept (es : Nat) (v : AV) (i : Nat) : AV :=
  match v with
  | .slice o off _ _ _ => .ptr (some (o, off + i * es))
  | _ => .dead
def fpt (p : AV) (off : Nat) : AV :=
  match p with
  | .ptr (some (o, i)) => .ptr (some (o, i + off))
  | _ => .dead
theorem Sl.row {B : Base} {H : Heap} {es : Nat} {v : AV} {rows : List (List AV)} (h : Sl B H es v rows) {i : Nat} {row : List AV} (hi : rows[i]? = some row) :
    ∃ o off cap, v = .slice o off rows.length es cap ∧ i < rows.length ∧ El B H (.ptr (some (o, off + i * es))) row := by
  have hlt : i < rows.length := by
    rcases Nat.lt_or_ge i rows.length with h' | h'
    · exact h'
    · rw [List.getElem?_eq_none h'] at hi; cases hi
  obtain ⟨h0, ⟨rfl, rfl⟩ | ⟨o, off, cap, rfl, h2⟩⟩ := h
  · simp at hlt
  · refine ⟨o, off, cap, rfl, hlt, o, _, rfl, ?_⟩
    have hle : row.length = es := h0 row (List.mem_of_getElem? hi)
    rw [hle, cellsAt_sub h2 (j := i * es) (m := es) (by
      have : (i + 1) * es ≤ rows.length * es := Nat.mul_le_mul_right _ hlt
      rw [Nat.add_mul] at this; omega), flatten_row h0 hi]

theorem Sl.el {B : Base} {H : Heap} {es : Nat} {v : AV} {rows : List (List AV)} (h : Sl B H es v rows) {i : Nat} {row : List AV} (hi : rows[i]? = some row) : El B H (ept es v i) row := by
  obtain ⟨o, off, cap, rfl, _, he⟩ := h.row hi
  exact he

/-! ### Operations -/
section
variable {B : Base} {H : Heap} {K : AV → Heap → Prop}

theorem op_idx {es : Nat} {v : AV} {rows : List (List AV)} {k : IntKind} {i : Nat} (h : Sl B H es v rows) (hi : i < rows.length) (hk : K (ept es v i) H) : aop B E0 H K (.indexPtr es (.const v) (.const (.int k (i : Int)))) := by
  obtain ⟨o, off, cap, rfl, hlt, he⟩ := h.row (List.getElem?_eq_getElem hi)
  simp only [aop, opK, Opd.look, ob_some, pAny_int]
  rw [if_pos ⟨trivial, by omega, by omega⟩]
  simpa [ept] using hk
theorem op_fld {p : AV} {row : List AV} {off : Nat} (h : El B H p row) (hk : K (fpt p off) H) : aop B E0 H K (.fieldPtr off (.const p)) := by
  obtain ⟨o, i, rfl, h⟩ := h
  simp only [aop, opK, Opd.look, ob_some]
  exact hk
theorem op_alloc {z : List AV} (hk : K (.ptr (some (.new H.length, 0))) (H ++ [.var z])) : aop B E0 H K (.alloc z) := hk
theorem op_box {n : Nat} {v : AV} {c : List AV} (hc : v.cells? = some c) (hl : c.length = n) (hk : K (.ptr (some (.new H.length, 0))) (H ++ [.var c])) : aop B E0 H K (.box n (.const v)) := by
  simp only [aop, opK, Opd.look, ob_some, hc, hl, if_true]; exact hk
theorem op_st {n k i : Nat} {v : AV} {c vs : List AV} (hv : v.cells? = some vs) (hn : vs.length = n) (hg : H[k]? = some (.var c)) (hl : i + n ≤ c.length) (hk : K .dead (H.set k (.var (putAt c i vs)))) : aop B E0 H K (.st n (.const (.ptr (some (.new k, i)))) (.const v)) := by
  subst hn
  simp only [aop, opK, Opd.look, ob_some, hv, if_true, poke, pokeAt, hg, if_pos hl]
  exact hk
theorem putAt_all {c vs : List AV} (h : c.length = vs.length) : putAt c 0 vs = vs := by simp [putAt, h]
theorem op_st_last {n : Nat} {c z : List AV} (hz : z.length = n) (hn : c.length = n) (hk : K .dead (H ++ [.var c])) : aop B E0 (H ++ [.var z]) K (.st n (.const (.ptr (some (.new H.length, 0)))) (.const (.agg c))) := by
  refine op_st (c := z) rfl hn (by rw [get_app0]; rfl) (by omega) ?_
  rw [putAt_all (by omega), set_app0]; exact hk
end

/-! ### Rows that grow -/
theorem appendTo_nil {B : Base} {H : Heap} {es bytes k : Nat} {new : List AV} (hk : k ≠ 0) (hb : k * bytes ≤ maxBytes) : appendTo B H es bytes .nils k new = some (.slice (.new H.length) 0 k es none, H ++ [.arr new]) := by
  show (if k = 0 then _ else (if k * bytes ≤ maxBytes then _ else _)) = _
  rw [if_neg hk, if_pos hb]
theorem appendTo_own {B : Base} {H : Heap} {es bytes k i off len : Nat} {new old : List AV} (hk : k ≠ 0) (hb : (len + k) * bytes ≤ maxBytes) (hc : cellsAt B H (.new i) off (len * es) = some old) :
    appendTo B H es bytes (.slice (.new i) off len es none) k new = some (.slice (.new H.length) 0 (len + k) es none, H.set i .gone ++ [.arr (old ++ new)]) := by
  show (if k = 0 then _ else (if es = es then (if (len + k) * bytes ≤ maxBytes then (cellsAt B H (.new i) off (len * es)).map _ else none) else none)) = _
  rw [if_neg hk, if_pos rfl, if_pos hb, hc]
  rfl
/-! ### Tidying -/
theorem Cln.drop {n : Nat} {H L : Heap} (hn : n = H.length) (hl : LowH n H) : Cln n (fun k => k) (H ++ L) H :=
  ⟨by omega, fun _ _ => rfl, fun _ _ _ _ h => h, fun j o h => .inr ⟨o, get_pre h, by subst hn; exact hl j o h⟩⟩
theorem tidy_drop {n : Nat} {H L : Heap} {Q : AV → Heap → Prop} {v : AV} (hn : n = H.length) (hl : LowH n H) (hv : Low n v) (h : Q v H) : tidyK n Q v (H ++ L) :=
  .inr ⟨v, H, ⟨_, Cln.drop hn hl, by subst hn; exact hv⟩, h⟩
/-- Objects without places in them. -/
def flatO : AObj → Prop
  | .var c => Ones c ∧ LowL 0 c
  | .arr c => Ones c ∧ LowL 0 c
  | .gone => True
  | _ => False
theorem flatO.ro {f : Nat → Nat} {n : Nat} {o : AObj} (h : flatO o) : RO f n o o := by
  cases o with
  | var c => exact ⟨h.1, LowL.rv (fun _ hk => absurd hk (Nat.not_lt_zero _)) (Nat.zero_le _) c h.2⟩
  | arr c => exact ⟨h.1, LowL.rv (fun _ hk => absurd hk (Nat.not_lt_zero _)) (Nat.zero_le _) c h.2⟩
  | gone => trivial
  | map _ _ => exact h.elim
  | iter _ _ _ _ => exact h.elim

/-- Behind what was there at the start, a choice of what came. -/
def pick (n : Nat) (g : Nat → Nat) (i : Nat) : Nat := if i < n then i else n + g (i - n)
theorem pick_low {n : Nat} {g : Nat → Nat} {k : Nat} (h : k < n) : pick n g k = k := if_pos h
theorem Cln.pickN {n : Nat} {H0 : Heap} {L L2 : List AObj} (hn : n = H0.length) (hl : LowH n H0) (g : Nat → Nat) (ginj : ∀ j k, j < L2.length → k < L2.length → g j = g k → j = k)
    (ho : ∀ j o2, L2[j]? = some o2 → o2 = .gone ∨ (L[g j]? = some o2 ∧ ∀ f n, RO f n o2 o2)) : Cln n (Am.pick n g) (H0 ++ L) (H0 ++ L2) := by
  subst hn
  refine ⟨by simp, fun k hk => pick_low hk, fun j k hj hk e => ?_, fun j o2 hj => ?_⟩
  · simp only [List.length_append] at hj hk
    rcases Nat.lt_or_ge j H0.length with h1 | h1 <;> rcases Nat.lt_or_ge k H0.length with h2 | h2
    · rw [pick_low h1, pick_low h2] at e; exact e
    · rw [pick_low h1] at e; unfold Am.pick at e; rw [if_neg (by omega)] at e; omega
    · rw [pick_low h2] at e; unfold Am.pick at e; rw [if_neg (by omega)] at e; omega
    · unfold Am.pick at e
      rw [if_neg (by omega), if_neg (by omega)] at e
      have := ginj (j - H0.length) (k - H0.length) (by omega) (by omega) (by omega)
      omega
  · rcases Nat.lt_or_ge j H0.length with h1 | h1
    · rw [List.getElem?_append_left h1] at hj
      refine .inr ⟨o2, by rw [pick_low h1, List.getElem?_append_left h1]; exact hj, RO_low (fun k hk => pick_low hk) (by simp) (hl j o2 hj)⟩
    · rw [List.getElem?_append_right h1] at hj
      rcases ho _ _ hj with h2 | ⟨h2, h3⟩
      · exact .inl h2
      · refine .inr ⟨o2, ?_, h3 _ _⟩
        unfold Am.pick
        rw [if_neg (by omega), List.getElem?_append_right (by omega)]
        rw [← h2]; congr 1; omega
theorem Cln.pick {n : Nat} {H0 : Heap} {L L2 : List AObj} (hn : n = H0.length) (hl : LowH n H0) (g : Nat → Nat) (ginj : ∀ j k, j < L2.length → k < L2.length → g j = g k → j = k)
    (ho : ∀ j o2, L2[j]? = some o2 → o2 = .gone ∨ (L[g j]? = some o2 ∧ flatO o2)) : Cln n (Am.pick n g) (H0 ++ L) (H0 ++ L2) :=
  Cln.pickN hn hl g ginj fun j o2 h => (ho j o2 h).imp id fun ⟨h1, h2⟩ => ⟨h1, fun _ _ => h2.ro⟩
theorem tidy_none {n : Nat} {H : Heap} {Q : AV → Heap → Prop} {v : AV} (h : Q v H) : tidyK n Q v H := .inl h
theorem low_int {n : Nat} {k : IntKind} {i : Int} : Low n (.int k i) := by simp [Low, RV]
theorem low_bool {n : Nat} {b : Bool} : Low n (.bool b) := by simp [Low, RV]
end Go.Am
