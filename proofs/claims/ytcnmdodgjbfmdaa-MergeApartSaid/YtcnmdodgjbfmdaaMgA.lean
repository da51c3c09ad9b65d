/- Texts in order; entries; cursors, and which is ahead; a heap of them in a list. -/
import Derived.Test.YtcnmdodgjbfmdaaAgX1
import Derived.Test.YtcnmdodgjbfmdaaAgX2
import Derived.Test.YtcnmdodgjbfmdaaAgX3
import Derived.Test.YtcnmdodgjbfmdaaAmU
namespace Go.Am
open Go

theorem sLess_total : ∀ (a b : List UInt8), (sLess a b || a == b) = !(sLess b a)
  | [], [] => rfl
  | [], _ :: _ => rfl
  | _ :: _, [] => rfl
  | x :: a, y :: b => by
    have ih := sLess_total a b
    have e1 : sLess (x :: a) (y :: b) = (decide (x < y) || (x == y && sLess a b)) := rfl
    have e2 : sLess (y :: b) (x :: a) = (decide (y < x) || (y == x && sLess b a)) := rfl
    rw [e1, e2]
    by_cases h1 : x = y
    · subst h1
      have hlt : ¬ x < x := UInt8.lt_irrefl x
      simpa [hlt] using ih
    · by_cases h2 : x < y
      · have h3 : ¬ y < x := fun h => UInt8.lt_asymm h2 h
        simp [h2, h3, Ne.symm h1]
      · have h3 : y < x := by
          rcases UInt8.lt_or_lt_of_ne h1 with h | h
          · exact absurd h h2
          · exact h
        simp [h1, h2, h3]
theorem sLess_irrefl (a : List UInt8) : sLess a a = false := by
  have := sLess_total a a
  simpa using this
theorem sLess_cons (x y : UInt8) (a b : List UInt8) : sLess (x :: a) (y :: b) = (decide (x < y) || (x == y && sLess a b)) := rfl
theorem sLess_trans : ∀ {a b c : List UInt8}, sLess a b = true → sLess b c = true → sLess a c = true
  | [], [], _, h, _ => by simp [sLess, Op.bytesLess] at h
  | [], _ :: _, [], _, h => by simp [sLess, Op.bytesLess] at h
  | [], _ :: _, _ :: _, _, _ => rfl
  | _ :: _, [], _, h, _ => by simp [sLess, Op.bytesLess] at h
  | _ :: _, _ :: _, [], _, h => by simp [sLess, Op.bytesLess] at h
  | x :: a, y :: b, z :: c, h1, h2 => by
    rw [sLess_cons] at h1 h2 ⊢
    simp only [Bool.or_eq_true, decide_eq_true_eq, Bool.and_eq_true, beq_iff_eq] at h1 h2 ⊢
    rcases h1 with h1 | ⟨rfl, h1⟩
    · rcases h2 with h2 | ⟨rfl, h2⟩
      · exact .inl (UInt8.lt_trans h1 h2)
      · exact .inl h1
    · rcases h2 with h2 | ⟨rfl, h2⟩
      · exact .inl h2
      · exact .inr ⟨rfl, sLess_trans h1 h2⟩
/-- a is b or ahead of it. -/
def Le (a b : List UInt8) : Prop := sLess b a = false
theorem Le.refl (a : List UInt8) : Le a a := sLess_irrefl a
theorem lt_or_le (a b : List UInt8) : sLess a b = true ∨ Le b a := by
  unfold Le; cases sLess a b <;> simp
theorem Le.eq {a b : List UInt8} (h : Le a b) : sLess a b = true ∨ a = b := by
  have := sLess_total a b
  rw [h] at this
  simpa using this
theorem lt_le {a b : List UInt8} (h : sLess a b = true) : Le a b := by
  unfold Le
  cases e : sLess b a with
  | false => rfl
  | true =>
    have := sLess_trans h e
    rw [sLess_irrefl] at this; cases this
theorem Le.trans {a b c : List UInt8} (h1 : Le a b) (h2 : Le b c) : Le a c := by
  rcases h1.eq with h1 | rfl
  · rcases h2.eq with h2 | rfl
    · exact lt_le (sLess_trans h1 h2)
    · exact lt_le h1
  · exact h2
theorem Le.not_lt {a b : List UInt8} (h : Le a b) (h2 : sLess b a = true) : False := by
  unfold Le at h; rw [h] at h2; cases h2

/-! ### Entries and cursors -/
structure E where
  key : List UInt8
  value : List UInt8
  del : Bool
  seq : Int
deriving DecidableEq
def E.row (e : E) : List AV := [.str e.key, .str e.value, .bool e.del, .int .i64 e.seq]
theorem E.rows_len (l : List E) : ∀ r, r ∈ l.map E.row → r.length = 4 := fun r hr => by
  obtain ⟨i, _, rfl⟩ := List.mem_map.1 hr; rfl

/-- A cursor: its list, how far it is passed, which list. -/
structure Cur where
  l : List E
  at' : Nat
  ix : Nat
def Cur.alive (c : Cur) : Prop := c.at' < c.l.length
def Cur.hd (c : Cur) : E := c.l.getD c.at' ⟨[], [], false, 0⟩
def Cur.key (c : Cur) : List UInt8 := c.hd.key
def Cur.ahead (c d : Cur) : Bool := sLess c.key d.key || (c.key == d.key && decide (c.ix < d.ix))

theorem ahead_iff {c d : Cur} : c.ahead d = true ↔ sLess c.key d.key = true ∨ (c.key = d.key ∧ c.ix < d.ix) := by
  unfold Cur.ahead; simp
theorem ahead_not {c d : Cur} : c.ahead d = false ↔ Le d.key c.key ∧ (c.key = d.key → d.ix ≤ c.ix) := by
  rw [← Bool.not_eq_true, ahead_iff]
  constructor
  · intro h
    refine ⟨?_, fun e => ?_⟩
    · rcases lt_or_le c.key d.key with h1 | h1
      · exact absurd (.inl h1) h
      · exact h1
    · rcases Nat.lt_or_ge c.ix d.ix with h1 | h1
      · exact absurd (.inr ⟨e, h1⟩) h
      · exact h1
  · rintro ⟨h1, h2⟩ (h3 | ⟨h3, h4⟩)
    · exact h1.not_lt h3
    · have := h2 h3; omega
theorem not_trans {a b c : Cur} (h1 : b.ahead a = false) (h2 : c.ahead b = false) : c.ahead a = false := by
  rw [ahead_not] at h1 h2 ⊢
  refine ⟨h1.1.trans h2.1, fun e => ?_⟩
  have hb : b.key = a.key := by
    rcases h1.1.eq with h | h
    · have := h2.1; rw [e] at this
      exact absurd h (by intro h; exact (this.not_lt h))
    · exact h.symm
  have := h1.2 hb
  have := h2.2 (e.trans hb.symm)
  omega
theorem ahead_asymm {a b : Cur} (h : a.ahead b = true) : b.ahead a = false := by
  rw [ahead_not]; rw [ahead_iff] at h
  rcases h with h | ⟨h1, h2⟩
  · exact ⟨lt_le h, fun e => by rw [e, sLess_irrefl] at h; cases h⟩
  · exact ⟨by rw [h1]; exact Le.refl _, fun _ => by omega⟩

/-! ### A heap in a list of pointers -/
def gt (ps : List Nat) (i : Nat) : Nat := ps.getD i 0
def swp (ps : List Nat) (i j : Nat) : List Nat := (ps.set i (gt ps j)).set j (gt ps i)
theorem swp_len {ps : List Nat} {i j : Nat} : (swp ps i j).length = ps.length := by simp [swp]
theorem gt_swp {ps : List Nat} {i j k : Nat} (hi : i < ps.length) (hj : j < ps.length) : gt (swp ps i j) k = if k = j then gt ps i else if k = i then gt ps j else gt ps k := by
  unfold gt swp
  simp only [List.getD_eq_getElem?_getD, List.getElem?_set, List.length_set]
  by_cases h1 : j = k
  · subst h1; simp [hj, gt, List.getD_eq_getElem?_getD]
  · rw [if_neg h1, if_neg (Ne.symm h1)]
    by_cases h2 : i = k
    · subst h2; simp [hi, gt, List.getD_eq_getElem?_getD]
    · rw [if_neg h2, if_neg (Ne.symm h2)]
theorem gt_eq {ps : List Nat} {i : Nat} (h : i < ps.length) : gt ps i = ps[i] := by
  unfold gt; simp [List.getD_eq_getElem?_getD, h]
theorem gt_get {ps : List Nat} {i : Nat} (h : i < ps.length) : ps[i]? = some (gt ps i) := by
  rw [gt_eq h, List.getElem?_eq_getElem h]
theorem swp_perm {ps : List Nat} {i j : Nat} (hi : i < ps.length) (hj : j < ps.length) : (swp ps i j).Perm ps := by
  unfold swp; rw [gt_eq hi, gt_eq hj]
  exact List.set_set_perm hi hj

/-- No one of the first n is ahead of the one above it, from lo on. -/
def HeapF (D : Nat → Cur) (ps : List Nat) (lo n : Nat) : Prop := ∀ k, 0 < k → k < n → lo ≤ (k - 1) / 2 → (D (gt ps k)).ahead (D (gt ps ((k - 1) / 2))) = false

theorem heap_top {D : Nat → Cur} {ps : List Nat} {n : Nat} (h : HeapF D ps 0 n) : ∀ k, k < n → (D (gt ps k)).ahead (D (gt ps 0)) = false := by
  intro k
  induction k using Nat.strongRecOn with
  | ind k ih =>
    intro hk
    rcases Nat.eq_zero_or_pos k with rfl | h0
    · cases e : (D (gt ps 0)).ahead (D (gt ps 0)) with
      | false => rfl
      | true => have := ahead_asymm e; rw [e] at this; cases this
    · have h1 := ih ((k - 1) / 2) (by omega) (by omega)
      exact not_trans h1 (h k h0 hk (Nat.zero_le _))

/-- The heap, but for the one at i, which may be too heavy. -/
def DownI (D : Nat → Cur) (ps : List Nat) (lo i n : Nat) : Prop :=
  (∀ k, 0 < k → k < n → lo ≤ (k - 1) / 2 → (k - 1) / 2 ≠ i → (D (gt ps k)).ahead (D (gt ps ((k - 1) / 2))) = false) ∧
  (0 < i → lo ≤ (i - 1) / 2 → ∀ k, 0 < k → k < n → (k - 1) / 2 = i → (D (gt ps k)).ahead (D (gt ps ((i - 1) / 2))) = false)

theorem down_start {D : Nat → Cur} {ps : List Nat} {lo n : Nat} (h : HeapF D ps (lo + 1) n) : DownI D ps lo lo n :=
  ⟨fun k h0 hk hl hne => h k h0 hk (by omega), fun h0 hl => by omega⟩
theorem down_end {D : Nat → Cur} {ps : List Nat} {lo i n : Nat} (h : DownI D ps lo i n) (hc : ∀ k, 0 < k → k < n → (k - 1) / 2 = i → (D (gt ps k)).ahead (D (gt ps i)) = false) : HeapF D ps lo n := fun k h0 hk hl => by
  by_cases e : (k - 1) / 2 = i
  · rw [e]; exact hc k h0 hk e
  · exact h.1 k h0 hk hl e
/-- The lesser child comes up. -/
theorem down_step {D : Nat → Cur} {ps : List Nat} {lo i n j : Nat} (h : DownI D ps lo i n) (hn : n ≤ ps.length) (hlo : lo ≤ i) (hj0 : 0 < j) (hjn : j < n) (hj : (j - 1) / 2 = i)
    (hlt : (D (gt ps j)).ahead (D (gt ps i)) = true) (hmin : ∀ k, 0 < k → k < n → (k - 1) / 2 = i → (D (gt ps k)).ahead (D (gt ps j)) = false) : DownI D (swp ps i j) lo j n := by
  have hil : i < ps.length := by omega
  have hjl : j < ps.length := by omega
  have hij : i ≠ j := by omega
  refine ⟨fun k h0 hk hl hne => ?_, fun _ hl k h0 hk hkj => ?_⟩
  · rw [gt_swp hil hjl, gt_swp hil hjl]
    rw [if_neg hne]
    by_cases hp : (k - 1) / 2 = i
    · rw [if_pos hp]
      by_cases hkj : k = j
      · rw [if_pos hkj]; exact ahead_asymm hlt
      · rw [if_neg hkj, if_neg (by omega)]; exact hmin k h0 hk hp
    · rw [if_neg hp]
      by_cases hki : k = i
      · rw [if_neg (by omega), if_pos hki]
        subst hki
        exact h.2 h0 hl j hj0 hjn hj
      · rw [if_neg (by omega), if_neg hki]
        exact h.1 k h0 hk hl hp
  · rw [gt_swp hil hjl, gt_swp hil hjl, if_neg (by omega), if_neg (by omega), if_neg (by omega), hj, if_pos rfl]
    have := h.1 k h0 hk (by omega) (by omega)
    rw [hkj] at this; exact this

/-- The heap, but for the one at j, which may be too light. -/
def UpI (D : Nat → Cur) (ps : List Nat) (j n : Nat) : Prop :=
  (∀ k, 0 < k → k < n → k ≠ j → (D (gt ps k)).ahead (D (gt ps ((k - 1) / 2))) = false) ∧
  (0 < j → ∀ k, 0 < k → k < n → (k - 1) / 2 = j → (D (gt ps k)).ahead (D (gt ps ((j - 1) / 2))) = false)
theorem up_end {D : Nat → Cur} {ps : List Nat} {j n : Nat} (h : UpI D ps j n) (hj : 0 < j → (D (gt ps j)).ahead (D (gt ps ((j - 1) / 2))) = false) : HeapF D ps 0 n := fun k h0 hk _ => by
  by_cases e : k = j
  · subst e; exact hj h0
  · exact h.1 k h0 hk e
theorem up_start {D : Nat → Cur} {ps : List Nat} {p : Nat} (h : HeapF D ps 0 ps.length) : UpI D (ps ++ [p]) ps.length (ps.length + 1) := by
  have e : ∀ k, k < ps.length → gt (ps ++ [p]) k = gt ps k := fun k hk => by
    unfold gt; simp [List.getD_eq_getElem?_getD, List.getElem?_append_left hk]
  refine ⟨fun k h0 hk hne => ?_, fun h0 k hk0 hk e2 => by omega⟩
  rw [e k (by omega), e _ (by omega)]
  exact h k h0 (by omega) (Nat.zero_le _)
theorem up_step {D : Nat → Cur} {ps : List Nat} {j n : Nat} (h : UpI D ps j n) (hn : n ≤ ps.length) (hj0 : 0 < j) (hjn : j < n) (hlt : (D (gt ps j)).ahead (D (gt ps ((j - 1) / 2))) = true) : UpI D (swp ps ((j - 1) / 2) j) ((j - 1) / 2) n := by
  have hil : (j - 1) / 2 < ps.length := by omega
  have hjl : j < ps.length := by omega
  generalize hi : (j - 1) / 2 = i at *
  refine ⟨fun k h0 hk hne => ?_, fun hi0 k h0 hk hki => ?_⟩
  · rw [gt_swp hil hjl, gt_swp hil hjl]
    by_cases hkj : k = j
    · subst hkj
      rw [if_pos rfl, hi, if_neg (by omega), if_pos rfl]
      exact ahead_asymm hlt
    · rw [if_neg hkj, if_neg hne]
      by_cases h1 : (k - 1) / 2 = j
      · rw [if_pos h1]
        have := h.2 hj0 k h0 hk h1
        rw [hi] at this
        exact this
      · rw [if_neg h1]
        by_cases h2 : (k - 1) / 2 = i
        · rw [if_pos h2]
          have := h.1 k h0 hk hkj
          rw [h2] at this
          exact not_trans (ahead_asymm hlt) this
        · rw [if_neg h2]
          exact h.1 k h0 hk hkj
  · rw [gt_swp hil hjl, gt_swp hil hjl, if_neg (show ¬ (i - 1) / 2 = j by omega), if_neg (show ¬ (i - 1) / 2 = i by omega)]
    have hip := h.1 i hi0 (by omega) (by omega)
    by_cases hkj : k = j
    · rw [if_pos hkj]; exact hip
    · rw [if_neg hkj, if_neg (by omega)]
      have h3 := h.1 k h0 hk hkj
      rw [hki] at h3
      exact not_trans hip h3
end Go.Am

/- Many lists are one: what is computed, in plain Lean. -/
namespace Go.Am
open Go

/-- The heads of those that have one, in order. -/
def hds (ls : List (List E)) : List E := ls.filterMap List.head?
def least1 (acc : Option (List UInt8)) (e : E) : Option (List UInt8) :=
  match acc with
  | none => some e.key
  | some k => if sLess e.key k = true then some e.key else some k
def leastF : Option (List UInt8) → List (List E) → Option (List UInt8)
  | acc, [] => acc
  | acc, [] :: r => leastF acc r
  | acc, (e :: _) :: r => leastF (least1 acc e) r
def stepL (k : List UInt8) : List E → List E
  | [] => []
  | e :: t => if e.key = k then t else e :: t
def out1 (bot : Bool) (e : E) : List E := if (bot && e.del) = true then [] else [e]
def roundF (k : List UInt8) (bot : Bool) (ls : List (List E)) : List E :=
  match (hds ls).find? fun e => e.key == k with
  | some e => out1 bot e
  | none => []
def mergeF : Nat → List (List E) → Bool → List E
  | 0, _, _ => []
  | f + 1, ls, bot =>
    match leastF none ls with
    | none => []
    | some k => roundF k bot ls ++ mergeF f (ls.map (stepL k)) bot
def tot (ls : List (List E)) : Nat := (ls.map List.length).sum

theorem Le.antisymm {a b : List UInt8} (h1 : Le a b) (h2 : Le b a) : a = b := by
  rcases h1.eq with h | h
  · exact absurd h (by intro h; exact h2.not_lt h)
  · exact h

theorem hds_cons_nil (r : List (List E)) : hds ([] :: r) = hds r := rfl
theorem hds_cons (e : E) (t : List E) (r : List (List E)) : hds ((e :: t) :: r) = e :: hds r := rfl

theorem leastF_spec : ∀ (ls : List (List E)) (acc : Option (List UInt8)),
    (leastF acc ls = none → acc = none ∧ hds ls = []) ∧
    (∀ k, leastF acc ls = some k → (acc = some k ∨ ∃ e, e ∈ hds ls ∧ e.key = k) ∧ (∀ a, acc = some a → Le k a) ∧ ∀ e, e ∈ hds ls → Le k e.key)
  | [], acc => ⟨fun h => ⟨h, rfl⟩, fun k h => ⟨.inl h, fun a ha => by rw [show leastF acc [] = acc from rfl] at h; rw [h] at ha; cases ha; exact Le.refl _, fun e he => by cases he⟩⟩
  | [] :: r, acc => leastF_spec r acc
  | (e :: t) :: r, acc => by
    have ih := leastF_spec r (least1 acc e)
    rw [hds_cons]
    refine ⟨fun h => ?_, fun k h => ?_⟩
    · have := (ih.1 h).1
      unfold least1 at this
      cases acc with
      | none => cases this
      | some a => simp only at this; split at this <;> cases this
    · obtain ⟨h1, h2, h3⟩ := ih.2 k h
      have hle : Le k e.key ∧ (∀ a, acc = some a → Le k a) := by
        unfold least1 at h2
        cases acc with
        | none => exact ⟨h2 _ rfl, fun a ha => by cases ha⟩
        | some a =>
          simp only at h2
          by_cases hs : sLess e.key a = true
          · rw [if_pos hs] at h2
            exact ⟨h2 _ rfl, fun a' ha => by cases ha; exact (h2 _ rfl).trans (lt_le hs)⟩
          · rw [if_neg hs] at h2
            have h4 : Le a e.key := by unfold Le; simpa using hs
            exact ⟨(h2 _ rfl).trans h4, fun a' ha => by cases ha; exact h2 _ rfl⟩
      refine ⟨?_, hle.2, fun x hx => ?_⟩
      · rcases h1 with h1 | ⟨x, hx, rfl⟩
        · unfold least1 at h1
          cases acc with
          | none => exact .inr ⟨e, List.mem_cons_self .., by simpa using h1⟩
          | some a =>
            simp only at h1
            by_cases hs : sLess e.key a = true
            · rw [if_pos hs] at h1; exact .inr ⟨e, List.mem_cons_self .., by simpa using h1⟩
            · rw [if_neg hs] at h1; exact .inl h1
        · exact .inr ⟨x, List.mem_cons_of_mem _ hx, rfl⟩
      · rcases List.mem_cons.1 hx with rfl | hx
        · exact hle.1
        · exact h3 x hx

theorem leastF_none {ls : List (List E)} : leastF none ls = none ↔ hds ls = [] := by
  refine ⟨fun h => ((leastF_spec ls none).1 h).2, fun h => ?_⟩
  cases e : leastF none ls with
  | none => rfl
  | some k =>
    rcases ((leastF_spec ls none).2 k e).1 with h1 | ⟨x, hx, _⟩
    · cases h1
    · rw [h] at hx; cases hx
theorem leastF_some {ls : List (List E)} {k : List UInt8} : leastF none ls = some k ↔ (∃ e, e ∈ hds ls ∧ e.key = k) ∧ ∀ e, e ∈ hds ls → Le k e.key := by
  refine ⟨fun h => ?_, fun ⟨⟨e, he, hk⟩, h2⟩ => ?_⟩
  · obtain ⟨h1, _, h3⟩ := (leastF_spec ls none).2 k h
    rcases h1 with h1 | h1
    · cases h1
    · exact ⟨h1, h3⟩
  · cases e2 : leastF none ls with
    | none => rw [leastF_none.1 e2] at he; cases he
    | some k' =>
      obtain ⟨h1, _, h3⟩ := (leastF_spec ls none).2 k' e2
      rcases h1 with h1 | ⟨x, hx, rfl⟩
      · cases h1
      · have a := h2 x hx
        have b := h3 e he
        rw [hk] at b
        rw [a.antisymm b]

theorem hds_nil {ls : List (List E)} : hds ls = [] ↔ ∀ l, l ∈ ls → l = [] := by
  unfold hds
  rw [List.filterMap_eq_nil_iff]
  refine ⟨fun h l hl => ?_, fun h l hl => by rw [h l hl]; rfl⟩
  have := h l hl
  cases l with
  | nil => rfl
  | cons e t => cases this

theorem stepL_cons (k : List UInt8) (e : E) (t : List E) : stepL k (e :: t) = if e.key = k then t else e :: t := rfl
theorem stepL_len (k : List UInt8) (l : List E) : (stepL k l).length ≤ l.length := by
  cases l with
  | nil => exact Nat.le_refl _
  | cons e t => rw [stepL_cons]; split <;> simp
theorem tot_cons (l : List E) (r : List (List E)) : tot (l :: r) = l.length + tot r := by simp [tot]
theorem tot_step_le (k : List UInt8) : ∀ ls : List (List E), tot (ls.map (stepL k)) ≤ tot ls
  | [] => Nat.le_refl _
  | l :: r => by
    rw [List.map_cons, tot_cons, tot_cons]
    have := stepL_len k l
    have := tot_step_le k r
    omega
theorem tot_step_lt {k : List UInt8} : ∀ {ls : List (List E)}, (∃ e, e ∈ hds ls ∧ e.key = k) → tot (ls.map (stepL k)) < tot ls
  | [], ⟨e, he, _⟩ => by cases he
  | [] :: r, h => by
    have := tot_step_lt (ls := r) h
    rw [List.map_cons, tot_cons, tot_cons]
    simp [stepL]; exact this
  | (x :: t) :: r, ⟨e, he, hk⟩ => by
    rw [List.map_cons, tot_cons, tot_cons]
    rw [hds_cons] at he
    rcases List.mem_cons.1 he with rfl | he
    · have := tot_step_le k r
      rw [stepL_cons, if_pos hk, List.length_cons]; omega
    · have := tot_step_lt (ls := r) ⟨e, he, hk⟩
      have := stepL_len k (x :: t)
      omega

/-- The empty ones do not matter. -/
theorem leastF_filter : ∀ (ls : List (List E)) (acc : Option (List UInt8)), leastF acc (ls.filter fun l => !l.isEmpty) = leastF acc ls
  | [], _ => rfl
  | [] :: r, acc => leastF_filter r acc
  | (e :: t) :: r, acc => leastF_filter r (least1 acc e)
theorem hds_filter : ∀ (ls : List (List E)), hds (ls.filter fun l => !l.isEmpty) = hds ls
  | [] => rfl
  | [] :: r => hds_filter r
  | (e :: t) :: r => by
    show hds ((e :: t) :: r.filter _) = hds ((e :: t) :: r)
    rw [hds_cons, hds_cons, hds_filter r]
theorem step_filter (k : List UInt8) : ∀ (ls : List (List E)), ((ls.filter fun l => !l.isEmpty).map (stepL k)).filter (fun l => !l.isEmpty) = (ls.map (stepL k)).filter fun l => !l.isEmpty
  | [] => rfl
  | [] :: r => step_filter k r
  | (e :: t) :: r => by
    show ((stepL k (e :: t)) :: (r.filter _).map (stepL k)).filter _ = ((stepL k (e :: t)) :: r.map (stepL k)).filter _
    rw [List.filter_cons, List.filter_cons, step_filter k r]
theorem mergeF_filter : ∀ (f : Nat) (l1 l2 : List (List E)) (bot : Bool), (l1.filter fun l => !l.isEmpty) = (l2.filter fun l => !l.isEmpty) → mergeF f l1 bot = mergeF f l2 bot
  | 0, _, _, _, _ => rfl
  | f + 1, l1, l2, bot, h => by
    have e1 : leastF none l1 = leastF none l2 := by rw [← leastF_filter l1, ← leastF_filter l2, h]
    have e2 : hds l1 = hds l2 := by rw [← hds_filter l1, ← hds_filter l2, h]
    unfold mergeF
    rw [e1]
    cases leastF none l2 with
    | none => rfl
    | some k =>
      simp only
      have e3 : mergeF f (l1.map (stepL k)) bot = mergeF f (l2.map (stepL k)) bot := mergeF_filter f _ _ bot (by rw [← step_filter k l1, ← step_filter k l2, h])
      rw [e3]
      unfold roundF
      rw [e2]
/-- More rounds than there are entries are of no use. -/
theorem mergeF_more : ∀ (f g : Nat) (ls : List (List E)) (bot : Bool), tot ls ≤ f → tot ls ≤ g → mergeF f ls bot = mergeF g ls bot := by
  intro f
  induction f with
  | zero =>
    intro g ls bot h1 h2
    cases g with
    | zero => rfl
    | succ g =>
      unfold mergeF
      cases e : leastF none ls with
      | none => rfl
      | some k =>
        have := tot_step_lt (leastF_some.1 e).1
        omega
  | succ f ih =>
    intro g ls bot h1 h2
    cases g with
    | zero =>
      unfold mergeF
      cases e : leastF none ls with
      | none => rfl
      | some k =>
        have := tot_step_lt (leastF_some.1 e).1
        omega
    | succ g =>
      unfold mergeF
      cases e : leastF none ls with
      | none => rfl
      | some k =>
        have := tot_step_lt (leastF_some.1 e).1
        simp only
        rw [ih g (ls.map (stepL k)) bot (by omega) (by omega)]
theorem mergeF_len : ∀ (f : Nat) (ls : List (List E)) (bot : Bool), (mergeF f ls bot).length ≤ tot ls := by
  intro f
  induction f with
  | zero => intro ls bot; exact Nat.zero_le _
  | succ f ih =>
    intro ls bot
    unfold mergeF
    cases e : leastF none ls with
    | none => exact Nat.zero_le _
    | some k =>
      have h1 := tot_step_lt (leastF_some.1 e).1
      have h2 := ih (ls.map (stepL k)) bot
      simp only [List.length_append]
      have : (roundF k bot ls).length ≤ 1 := by
        unfold roundF
        split
        · unfold out1; split <;> simp
        · simp
      omega

/-! ### By cursors -/
def Cur.rest (c : Cur) : List E := c.l.drop c.at'
def Cur.live (c : Cur) : Bool := decide (c.at' < c.l.length)
def Cur.adv (c : Cur) : Cur := { c with at' := c.at' + 1 }
theorem live_iff {c : Cur} : c.live = true ↔ c.alive := by unfold Cur.live Cur.alive; simp
theorem rest_live {c : Cur} (h : c.live = true) : c.rest = c.hd :: c.adv.rest := by
  have h : c.at' < c.l.length := live_iff.1 h
  unfold Cur.rest Cur.hd Cur.adv
  rw [List.drop_eq_getElem_cons h]
  simp [List.getD_eq_getElem?_getD, h]
theorem rest_dead {c : Cur} (h : c.live = false) : c.rest = [] := by
  have h : ¬ c.at' < c.l.length := by unfold Cur.live at h; simpa using h
  unfold Cur.rest
  exact List.drop_eq_nil_of_le (by omega)
theorem head_rest {c : Cur} {e : E} : c.rest.head? = some e ↔ c.live = true ∧ c.hd = e := by
  cases h : c.live with
  | false => rw [rest_dead h]; simp
  | true => rw [rest_live h]; simp

/-- A cursor is none ahead of: its head is the round's. -/
theorem mem_hds {cs : List Cur} {e : E} : e ∈ hds (cs.map Cur.rest) ↔ ∃ c, c ∈ cs ∧ c.live = true ∧ c.hd = e := by
  unfold hds
  rw [List.mem_filterMap]
  constructor
  · rintro ⟨l, hl, he⟩
    obtain ⟨c, hc, rfl⟩ := List.mem_map.1 hl
    exact ⟨c, hc, head_rest.1 he⟩
  · rintro ⟨c, hc, h⟩
    exact ⟨_, List.mem_map.2 ⟨c, hc, rfl⟩, head_rest.2 h⟩
theorem find_first : ∀ {cs : List Cur} {c : Cur}, (cs.map Cur.ix).Pairwise (· < ·) → c ∈ cs → c.live = true → (∀ d, d ∈ cs → d.live = true → d.key = c.key → c.ix ≤ d.ix) →
    (hds (cs.map Cur.rest)).find? (fun e => e.key == c.key) = some c.hd
  | [], c, _, h, _, _ => by cases h
  | d :: r, c, hp, hm, hl, hmin => by
    rw [List.map_cons, List.pairwise_cons] at hp
    cases hd : d.live with
    | false =>
      have hm' : c ∈ r := by
        rcases List.mem_cons.1 hm with rfl | h
        · rw [hd] at hl; cases hl
        · exact h
      rw [List.map_cons, rest_dead hd, hds_cons_nil]
      exact find_first hp.2 hm' hl fun x hx => hmin x (List.mem_cons_of_mem _ hx)
    | true =>
      rw [List.map_cons, rest_live hd, hds_cons, List.find?_cons]
      by_cases hk : d.key = c.key
      · have hk' : d.hd.key = c.key := hk
        rw [hk', beq_self_eq_true]
        rcases List.mem_cons.1 hm with rfl | h
        · rfl
        · have h1 := hp.1 c.ix (List.mem_map.2 ⟨c, h, rfl⟩)
          have h2 := hmin d (List.mem_cons_self ..) hd hk
          omega
      · have hk' : (d.hd.key == c.key) = false := beq_eq_false_iff_ne.2 hk
        rw [hk']
        have hm' : c ∈ r := by
          rcases List.mem_cons.1 hm with rfl | h
          · exact absurd rfl hk
          · exact h
        exact find_first hp.2 hm' hl fun x hx => hmin x (List.mem_cons_of_mem _ hx)

def Cur.pass (k : List UInt8) (c : Cur) : Cur := if c.live = true ∧ c.key = k then c.adv else c
theorem rest_pass (k : List UInt8) (c : Cur) : (c.pass k).rest = stepL k c.rest := by
  unfold Cur.pass
  cases h : c.live with
  | false => rw [rest_dead h, if_neg (by simp)]; exact rest_dead h
  | true =>
    rw [rest_live h]
    have hk : c.hd.key = c.key := rfl
    rw [stepL_cons]
    by_cases e : c.key = k
    · rw [if_pos ⟨rfl, e⟩, if_pos (hk.trans e)]
    · rw [if_neg (fun x => e x.2), if_neg (by rw [hk]; exact e), rest_live h]

theorem round_pure {f : Nat} {bot : Bool} {cs : List Cur} {c : Cur} (hix : (cs.map Cur.ix).Pairwise (· < ·)) (hc : c ∈ cs) (hl : c.live = true) (hmin : ∀ d, d ∈ cs → d.live = true → d.ahead c = false) :
    mergeF (f + 1) (cs.map Cur.rest) bot = out1 bot c.hd ++ mergeF f ((cs.map (Cur.pass c.key)).map Cur.rest) bot := by
  have h1 : leastF none (cs.map Cur.rest) = some c.key := leastF_some.2 ⟨⟨c.hd, mem_hds.2 ⟨c, hc, hl, rfl⟩, rfl⟩, fun e he => by
    obtain ⟨d, hd, hdl, rfl⟩ := mem_hds.1 he
    exact (ahead_not.1 (hmin d hd hdl)).1⟩
  have h2 : roundF c.key bot (cs.map Cur.rest) = out1 bot c.hd := by
    unfold roundF
    rw [find_first hix hc hl fun d hd hdl hk => (ahead_not.1 (hmin d hd hdl)).2 hk]
  have h3 : (cs.map (Cur.pass c.key)).map Cur.rest = (cs.map Cur.rest).map (stepL c.key) := by
    rw [List.map_map, List.map_map]
    exact List.map_congr_left fun d _ => rest_pass _ d
  rw [h3]
  conv => lhs; unfold mergeF
  rw [h1]
  simp only
  rw [h2]
theorem end_pure {f : Nat} {bot : Bool} {cs : List Cur} (h : ∀ d, d ∈ cs → d.live = false) : mergeF f (cs.map Cur.rest) bot = [] := by
  cases f with
  | zero => rfl
  | succ f =>
    unfold mergeF
    rw [leastF_none.2 (hds_nil.2 fun l hl => by
      obtain ⟨d, hd, rfl⟩ := List.mem_map.1 hl
      exact rest_dead (h d hd))]
end Go.Am

/- The package merge: cursors and the heap's methods. -/
namespace Go.Am
open Go

def pt (p : Nat) : AV := .ptr (some (.new p, 0))
def Cur.row (c : Cur) (lv : AV) : List AV := [lv, .int .i64 (c.at' : Int), .int .i64 (c.ix : Int)]
/-- At p stands a cursor. -/
def CuG (B : Base) (G : Heap) (p : Nat) (c : Cur) : Prop := ∃ lv, G[p]? = some (.var (c.row lv)) ∧ Sl B G 4 lv (c.l.map E.row)
theorem CuG.pre {B : Base} {G L : Heap} {p : Nat} {c : Cur} (h : CuG B G p c) : CuG B (G ++ L) p c := by
  obtain ⟨lv, h1, h2⟩ := h
  exact ⟨lv, get_pre h1, h2.pre⟩

section
variable {B : Base} {n : Nat} {H G : Heap} {Q : AV → Heap → Prop} {c d : Cur} {p q : Nat}

theorem Cur.hd_row (ha : c.alive) : (c.l.map E.row)[c.at']? = some c.hd.row := by
  have ha : c.at' < c.l.length := ha
  unfold Cur.hd; simp [List.getD_eq_getElem?_getD, ha]

theorem live_pt {K : AV → Prop} (h : K (pt p)) : pLive (pt p) K := h
theorem live_agg {l : List AV} {K : AV → Prop} (h : K (.agg l)) : pLive (.agg l) K := h
theorem sb_eqq {a b : List UInt8} {K : AV → Prop} (h : K (.bool (a == b))) : sbinK .eql a b K := bool_split h
theorem low_row {e : E} {n : Nat} : Low n (.agg e.row) := by simp [Low, RV, E.row, RVL, Ones, AV.one]
theorem op_fieldS {K : AV → Heap → Prop} {l : List AV} {off m : Nat} {s : List UInt8} (h : l[off]? = some (.str s)) (hk : K (.str s) G) : aop B E0 G K (.field off (some .str) m (.const (.agg l))) := by
  simp only [aop, opK, Opd.look, ob_some, h, tyK, pStr_str]; exact hk

theorem f20_ok (hc : CuG B G p c) (ha : c.alive) (h : Q (.agg c.hd.row) G) : Cl B 20 [pt p] G Q := by
  refine f20_in fun n cl hn hcl hH hA => op_alloc ?_
  obtain ⟨lv, h1, h2⟩ := hc
  have h2' : Sl B (G ++ [.var [(.str []), (.str []), (.bool false), (.int .i64 0)]]) 4 lv (c.l.map E.row) := h2.pre
  have h1' : (G ++ [.var [(.str []), (.str []), (.bool false), (.int .i64 0)]])[p]? = some (.var (c.row lv)) := get_pre h1
  refine op_nil (op_fldP ?_)
  rw [peekV h1' (v := lv) rfl, ob_some]
  refine Sl.live h2 _ (op_nil (op_fldP ?_))
  rw [peekV h1' (v := .int .i64 (c.at' : Int)) rfl, ob_some, pInt_int]
  refine op_idx h2' (by rw [List.length_map]; exact ha) ?_
  rw [(h2'.el (Cur.hd_row ha)).peekN (n := 4) rfl, ob_some]
  refine op_st_last rfl rfl ?_
  rw [peekVN (n := 4) (c := c.hd.row) (by rw [get_app0]; rfl) rfl, ob_some]
  exact tidy_drop hn hH low_row h

theorem f22_ok (hc : CuG B G p c) (hb : (c.at' : Int) < 9223372036854775807) (h : ∀ lv, G[p]? = some (.var (c.row lv)) → Sl B G 4 lv (c.l.map E.row) → Q (.bool (decide (c.at' + 1 < c.l.length))) (G.set p (.var ({ c with at' := c.at' + 1 : Cur }.row lv)))) : Cl B 22 [pt p] G Q := by
  refine f22_in fun n cl hn hcl hH hA => op_nil (op_fldP ?_)
  obtain ⟨lv, h1, h2⟩ := hc
  rw [peekV h1 (v := .int .i64 (c.at' : Int)) rfl, ob_some, pInt_int]
  refine op_nil (op_fldP ?_)
  rw [w64 (by omega)]
  refine op_st (c := c.row lv) rfl rfl h1 (by simp [Cur.row]) ?_
  have e : putAt (c.row lv) (0 + 1) [.int .i64 ((c.at' : Int) + 1)] = ({ c with at' := c.at' + 1 : Cur }.row lv) := by
    simp [putAt, Cur.row]
  rw [e]
  have g2 : (G.set p (.var ({ c with at' := c.at' + 1 : Cur }.row lv)))[p]? = some (.var ({ c with at' := c.at' + 1 : Cur }.row lv)) := get_set (lt_of_get h1)
  refine op_nil (op_fldP ?_)
  rw [peekV g2 (v := .int .i64 ((c.at' + 1 : Nat) : Int)) rfl, ob_some, pInt_int]
  refine op_nil (op_fldP ?_)
  rw [peekV g2 (v := lv) rfl, ob_some]
  refine Sl.live h2 _ ?_
  rw [h2.len, ob_some]
  refine ib_lt (tidy_none ?_)
  have := h lv h1 h2
  rw [List.length_map]
  have e2 : decide (((c.at' + 1 : Nat) : Int) < (c.l.length : Int)) = decide (c.at' + 1 < c.l.length) := decide_eq_decide.2 (by omega)
  rw [e2]; exact this

theorem f48_ok (hc : CuG B G p c) (ha : c.alive) (hd : CuG B G q d) (hb : d.alive) (h : Q (.bool (c.ahead d)) G) : Cl B 48 [pt p, pt q] G Q := by
  refine f48_in fun n cl hn hcl hH hA => J48_1_in ?_
  subst hcl
  refine f20_ok hc ha ?_
  refine live_agg (op_fieldS (s := c.key) rfl ?_)
  refine f20_ok hd hb ?_
  refine live_agg (op_fieldS (s := d.key) rfl ?_)
  refine J48_0_in ?_
  rw [pStr_str, pStr_str]
  refine sb_lt ?_
  rw [pGuard_bool]
  obtain ⟨lv, c1, c2⟩ := hc
  obtain ⟨lw, d1, d2⟩ := hd
  refine bs_iff.2 ⟨fun h1 => tidy_none ?_, fun h1 => ?_⟩
  · have : c.ahead d = true := ahead_iff.2 (.inl h1)
    rw [this] at h; exact h
  · rw [pStr_str, pStr_str]
    refine sb_eqq ?_
    rw [pGuard_bool]
    refine bs_iff.2 ⟨fun h2 => ?_, fun h2 => ?_⟩
    · refine op_nil (op_fldP ?_)
      rw [peekV c1 (v := .int .i64 (c.ix : Int)) rfl, ob_some, pInt_int]
      refine op_nil (op_fldP ?_)
      rw [peekV d1 (v := .int .i64 (d.ix : Int)) rfl, ob_some, pInt_int]
      refine ib_lt (tidy_none ?_)
      have e2 : decide ((c.ix : Int) < (d.ix : Int)) = c.ahead d := by
        rw [show c.ahead d = (sLess c.key d.key || (c.key == d.key && decide (c.ix < d.ix))) from rfl, h1, h2]
        simp
      rw [e2]; exact h
    · refine tidy_none ?_
      have : c.ahead d = false := by
        rw [show c.ahead d = (sLess c.key d.key || (c.key == d.key && decide (c.ix < d.ix))) from rfl, h1, h2]
        rfl
      rw [this] at h; exact h

/-! ### The heads -/
def prow (p : Nat) : List AV := [pt p]
theorem prows_len (ps : List Nat) : ∀ r, r ∈ ps.map prow → r.length = 1 := fun r hr => by
  obtain ⟨i, _, rfl⟩ := List.mem_map.1 hr; rfl
theorem prows_flat : ∀ (ps : List Nat), (ps.map prow).flatten = ps.map pt
  | [] => rfl
  | p :: r => by simp only [List.map_cons, List.flatten_cons, prows_flat r]; rfl
/-- Pointers stand there, by themselves. -/
def PsG (G : Heap) (s : AV) (ps : List Nat) : Prop := (s = .nils ∧ ps = []) ∨ ∃ j rest, s = .slice (.new j) 0 ps.length 1 none ∧ G[j]? = some (.arr (ps.map pt ++ rest))
theorem PsG.sl {s : AV} {ps : List Nat} (h : PsG G s ps) : Sl B G 1 s (ps.map prow) := by
  refine ⟨prows_len ps, ?_⟩
  obtain ⟨rfl, rfl⟩ | ⟨j, rest, rfl, hg⟩ := h
  · exact .inl ⟨rfl, rfl⟩
  · refine .inr ⟨.new j, 0, none, by simp, cellsAt_iff'.2 ⟨ps.map pt ++ rest, by simp only [cellsOf, hg], by simp, ?_⟩⟩
    rw [prows_flat]; simp
theorem PsG.get {s : AV} {ps : List Nat} (h : PsG G s ps) {i : Nat} (hi : i < ps.length) : peek B G (ept 1 s i) = some (pt (gt ps i)) := by
  have hr : (ps.map prow)[i]? = some (prow (gt ps i)) := by rw [List.getElem?_map, gt_get hi]; rfl
  exact ((h.sl (B := B)).el hr).peek0 rfl

theorem f45_ok {s : AV} {ps : List Nat} (h : PsG G s ps) (hk : Q (.int .i64 (ps.length : Int)) G) : Cl B 45 [s] G Q := by
  refine f45_in fun n cl hn hcl hH hA => ?_
  rw [(h.sl (B := B)).len, ob_some, List.length_map]
  exact tidy_none hk

theorem f46_ok {s : AV} {ps : List Nat} {i j : Nat} (hs : PsG G s ps) (hi : i < ps.length) (hj : j < ps.length) (hc : CuG B G (gt ps i) c) (ha : c.alive) (hd : CuG B G (gt ps j) d) (hb : d.alive) (h : Q (.bool (c.ahead d)) G) :
    Cl B 46 [s, .int .i64 (i : Int), .int .i64 (j : Int)] G Q := by
  refine f46_in fun n cl hn hcl hH hA => op_idx (hs.sl (B := B)) (by simpa using hi) ?_
  subst hcl
  rw [hs.get hi, ob_some]
  refine live_pt (op_idx (hs.sl (B := B)) (by simpa using hj) ?_)
  rw [hs.get hj, ob_some]
  refine live_pt ?_
  refine f48_ok hc ha hd hb ?_
  exact tyK_bool (tidy_none h)

theorem putAt_set {l : List AV} {i : Nat} {v : AV} (h : i < l.length) : putAt l i [v] = l.set i v := by
  rw [List.set_eq_take_append_cons_drop, if_pos h]
  simp [putAt]

theorem f47_ok {ps : List Nat} {rest : List AV} {a b j : Nat} (hg : G[j]? = some (.arr (ps.map pt ++ rest))) (ha : a < ps.length) (hb : b < ps.length) (h : Q (.tuple []) (G.set j (.arr ((swp ps a b).map pt ++ rest)))) :
    Cl B 47 [.slice (.new j) 0 ps.length 1 none, .int .i64 (a : Int), .int .i64 (b : Int)] G Q := by
  have hs : PsG G (.slice (.new j) 0 ps.length 1 none) ps := .inr ⟨j, rest, rfl, hg⟩
  have ix : ∀ {K : AV → Heap → Prop} {G : Heap} {i : Nat}, i < ps.length → K (.ptr (some (.new j, i))) G → aop B E0 G K (.indexPtr 1 (.const (.slice (.new j) 0 ps.length 1 none)) (.const (.int .i64 (i : Int)))) := fun {K G i} hi hk => by
    simp only [aop, opK, Opd.look, ob_some, pAny_int]
    rw [if_pos ⟨trivial, by omega, by omega⟩]
    simpa using hk
  have pk : ∀ {i : Nat}, i < ps.length → peek B G (.ptr (some (.new j, i))) = some (pt (gt ps i)) := fun {i} hi => by
    have := hs.get (B := B) hi
    simpa [ept] using this
  refine f47_in fun n cl hn hcl hH hA => ix hb ?_
  rw [pk hb, ob_some]
  refine live_pt (ix ha ?_)
  rw [pk ha, ob_some]
  refine live_pt (ix ha ?_)
  refine op_st_arr (n := 1) (vs := [pt (gt ps b)]) rfl rfl hg (by simp; omega) ⟨rfl, rfl, ix hb ?_⟩
  rw [putAt_set (by simp; omega)]
  refine op_st_arr (n := 1) (vs := [pt (gt ps a)]) rfl rfl (get_set (lt_of_get hg)) (by simp; omega) (tidy_none ?_)
  rw [putAt_set (by simp; omega), List.set_set]
  have e : ((ps.map pt ++ rest).set a (pt (gt ps b))).set b (pt (gt ps a)) = (swp ps a b).map pt ++ rest := by
    unfold swp
    rw [List.set_append_left _ _ (by simpa using ha), List.set_append_left _ _ (by simpa using hb), ← List.map_set, ← List.map_set]
  rw [e]; exact h

end
end Go.Am

/- The memory of a heap of cursors; what the heap's methods Push and Pop do to it. -/
namespace Go.Am
open Go

/-- Behind H: at k the heads, with the pointers ps; and what C tells stands elsewhere. -/
def Hs (H G : Heap) (k : Nat) (C : Nat → Option AObj) (ps : List Nat) (s : AV) : Prop :=
  (s = .nils ∧ ps = []) ∨ ∃ j rest, s = .slice (.new j) 0 ps.length 1 none ∧ G[j]? = some (.arr (ps.map pt ++ rest)) ∧ H.length ≤ j ∧ j ≠ k ∧ C j = none
structure HW (H G : Heap) (k : Nat) (ps : List Nat) (C : Nat → Option AObj) : Prop where
  pre : ∃ L, G = H ++ L
  kn : H.length ≤ k
  hs : ∃ s, G[k]? = some (.var [s]) ∧ Hs H G k C ps s
  cs : ∀ p o, C p = some o → p ≠ k ∧ G[p]? = some o
def updC (C : Nat → Option AObj) (p : Nat) (o : AObj) : Nat → Option AObj := fun q => if q = p then some o else C q
theorem updC_at {C : Nat → Option AObj} {p : Nat} {o : AObj} : updC C p o p = some o := if_pos rfl
theorem updC_ne {C : Nat → Option AObj} {p q : Nat} {o : AObj} (h : q ≠ p) : updC C p o q = C q := if_neg h

section
variable {B : Base} {H G : Heap} {k : Nat} {ps : List Nat} {C : Nat → Option AObj} {Q : AV → Heap → Prop}

theorem set_pre {L : List AObj} {i : Nat} {o : AObj} (hi : H.length ≤ i) : ∃ L', (H ++ L).set i o = H ++ L' :=
  ⟨L.set (i - H.length) o, by rw [List.set_append_right _ _ hi]⟩
theorem HW.le (h : HW H G k ps C) : H.length ≤ G.length := by
  obtain ⟨L, rfl⟩ := h.pre; simp
theorem HW.lt (h : HW H G k ps C) {p : Nat} {o : AObj} (hp : C p = some o) : p < G.length := lt_of_get (h.cs p o hp).2
theorem HW.klt (h : HW H G k ps C) : k < G.length := by
  obtain ⟨s, hs, _⟩ := h.hs; exact lt_of_get hs
theorem HW.free (h : HW H G k ps C) {p : Nat} (hp : G.length ≤ p) : C p = none := by
  cases e : C p with
  | none => rfl
  | some o => have := h.lt e; omega
/-- Memory that grows. -/
theorem HW.grow (h : HW H G k ps C) (L : List AObj) : HW H (G ++ L) k ps C := by
  obtain ⟨⟨L0, rfl⟩, h2, ⟨s, hs, h3⟩, h4⟩ := h
  refine ⟨⟨L0 ++ L, List.append_assoc ..⟩, h2, ⟨s, get_pre hs, ?_⟩, fun p o hp => ⟨(h4 p o hp).1, get_pre (h4 p o hp).2⟩⟩
  exact h3.imp id fun ⟨j, rest, h5, h6, h7⟩ => ⟨j, rest, h5, get_pre h6, h7⟩
/-- A new object that is told. -/
theorem HW.add (h : HW H G k ps C) (o : AObj) : HW H (G ++ [o]) k ps (updC C G.length o) := by
  have hk := h.klt
  obtain ⟨⟨L0, rfl⟩, h2, ⟨s, hs, h3⟩, h4⟩ := h
  refine ⟨⟨L0 ++ [o], List.append_assoc ..⟩, h2, ⟨s, get_pre hs, ?_⟩, fun p o' hp => ?_⟩
  · refine h3.imp id fun ⟨j, rest, h5, h6, h7, h8, h9⟩ => ⟨j, rest, h5, get_pre h6, h7, h8, ?_⟩
    have := lt_of_get h6
    rw [updC_ne (by omega)]; exact h9
  · unfold updC at hp
    split at hp
    · rename_i e; subst e; cases hp
      exact ⟨by omega, by rw [get_app0]; rfl⟩
    · exact ⟨(h4 p o' hp).1, get_pre (h4 p o' hp).2⟩
/-- What is told is no longer told. -/
theorem HW.forget (h : HW H G k ps C) {C' : Nat → Option AObj} (hC : ∀ p o, C' p = some o → C p = some o) : HW H G k ps C' := by
  obtain ⟨h1, h2, ⟨s, hs, h3⟩, h4⟩ := h
  refine ⟨h1, h2, ⟨s, hs, ?_⟩, fun p o hp => h4 p o (hC p o hp)⟩
  refine h3.imp id fun ⟨j, rest, h5, h6, h7, h8, h9⟩ => ⟨j, rest, h5, h6, h7, h8, ?_⟩
  cases e : C' j with
  | none => rfl
  | some o => rw [hC j o e] at h9; cases h9
/-- What is told is written. -/
theorem HW.set (h : HW H G k ps C) {p : Nat} {o : AObj} (hp : C p = some o) (hl : H.length ≤ p) (o' : AObj) : HW H (G.set p o') k ps (updC C p o') := by
  have hlt := h.lt hp
  obtain ⟨⟨L0, rfl⟩, h2, ⟨s, hs, h3⟩, h4⟩ := h
  have hpk := (h4 p o hp).1
  refine ⟨set_pre hl, h2, ⟨s, by rw [get_set_ne hpk]; exact hs, ?_⟩, fun q o2 hq => ?_⟩
  · refine h3.imp id fun ⟨j, rest, h5, h6, h7, h8, h9⟩ => ?_
    have hne : j ≠ p := fun e => by subst e; rw [hp] at h9; cases h9
    exact ⟨j, rest, h5, by rw [get_set_ne (Ne.symm hne)]; exact h6, h7, h8, by rw [updC_ne hne]; exact h9⟩
  · unfold updC at hq
    split at hq
    · rename_i e; subst e; cases hq
      exact ⟨hpk, get_set hlt⟩
    · rename_i e
      exact ⟨(h4 q o2 hq).1, by rw [get_set_ne (Ne.symm e)]; exact (h4 q o2 hq).2⟩
/-- The pointers are changed. -/
theorem HW.swap (h : HW H G k ps C) {j : Nat} {rest : List AV} {ps' : List Nat} (hk : G[k]? = some (.var [.slice (.new j) 0 ps.length 1 none])) (hg : G[j]? = some (.arr (ps.map pt ++ rest))) (hl : ps'.length = ps.length) :
    HW H (G.set j (.arr (ps'.map pt ++ rest))) k ps' C ∧ (G.set j (.arr (ps'.map pt ++ rest)))[k]? = some (.var [.slice (.new j) 0 ps'.length 1 none]) ∧ (G.set j (.arr (ps'.map pt ++ rest)))[j]? = some (.arr (ps'.map pt ++ rest)) := by
  obtain ⟨⟨L0, rfl⟩, h2, ⟨s, hs, h3⟩, h4⟩ := h
  rw [hk] at hs; cases hs
  rcases h3 with ⟨e, _⟩ | ⟨j', rest', h5, h6, h7, h8, h9⟩
  · cases e
  cases h5
  have e1 : ((H ++ L0).set j (.arr (ps'.map pt ++ rest)))[k]? = some (.var [.slice (.new j) 0 ps'.length 1 none]) := by rw [get_set_ne h8, hk, hl]
  have e2 := get_set (o := .arr (ps'.map pt ++ rest)) (lt_of_get hg)
  refine ⟨⟨set_pre h7, h2, ⟨_, e1, .inr ⟨j, rest, rfl, e2, h7, h8, h9⟩⟩, fun p o hp => ?_⟩, e1, e2⟩
  have hne : j ≠ p := fun e => by subst e; rw [hp] at h9; cases h9
  exact ⟨(h4 p o hp).1, by rw [get_set_ne hne]; exact (h4 p o hp).2⟩
theorem HW.psG (h : HW H G k ps C) : ∃ s, G[k]? = some (.var [s]) ∧ PsG G s ps := by
  obtain ⟨_, _, ⟨s, hs, h3⟩, _⟩ := h
  exact ⟨s, hs, h3.imp id fun ⟨j, rest, h5, h6, _⟩ => ⟨j, rest, h5, h6⟩⟩
theorem HW.slice (h : HW H G k ps C) (hne : ps ≠ []) : ∃ j rest, G[k]? = some (.var [.slice (.new j) 0 ps.length 1 none]) ∧ G[j]? = some (.arr (ps.map pt ++ rest)) := by
  obtain ⟨s, hs, h3⟩ := h.psG
  rcases h3 with ⟨_, e⟩ | ⟨j, rest, rfl, hg⟩
  · exact absurd e hne
  · exact ⟨j, rest, hs, hg⟩

theorem op_sl {K : AV → Heap → Prop} {es len : Nat} {v r : AV} {a : Int} (hl : lenOf v = some len) (hs : sliceOf es v 0 a = some r) (hk : K r G) : aop B E0 G K (.sliceL es (.const v) none (some (.const (.int .i64 a))) none) := by
  simp only [aop, opK, Opd.look, ob_some, hl, optK, pAny_int, hs]; exact hk

theorem op_app {K : AV → Heap → Prop} {es bytes m : Nat} {v u r : AV} {c : List AV} {G' : Heap} (hl : lenOf u = some m) (he : elemsOf B G u = some c) (hn : c.length = m * es) (ha : appendTo B G es bytes v m c = some (r, G')) (hk : K r G') :
    aop B E0 G K (.append es bytes (.const v) (.const u)) := by
  simp only [aop, opK, Opd.look, ob_some, hl, he]
  rw [if_pos hn, ha, ob_some]
  exact hk

/-- The method Pop. -/
theorem f49_ok {p : Nat} (h : HW H G k (ps ++ [p]) C) (hb : (ps.length : Int) < 4611686018427387904) (hk : ∀ G', HW H G' k ps C → Q (.iface 40 (pt p)) G') : Cl B 49 [pt k] G Q := by
  refine f49_in fun n cl hn hcl hH hA => op_nil ?_
  obtain ⟨j, rest, h1, h2⟩ := h.slice (by simp)
  rw [peekV h1 (v := .slice (.new j) 0 (ps ++ [p]).length 1 none) rfl, ob_some]
  refine live_slice _ ?_
  have hps : PsG G (.slice (.new j) 0 (ps ++ [p]).length 1 none) (ps ++ [p]) := .inr ⟨j, rest, rfl, h2⟩
  rw [(hps.sl (B := B)).len, ob_some]
  have e1 : IntKind.i64.wrap ((((ps ++ [p]).map prow).length : Int) - 1) = (ps.length : Int) := by
    simp only [List.length_map, List.length_append, List.length_singleton]
    rw [w64 (by omega)]; omega
  rw [e1]
  refine op_idx (hps.sl (B := B)) (by simp) ?_
  rw [hps.get (by simp), ob_some]
  have e2 : gt (ps ++ [p]) ps.length = p := by simp [gt, List.getD_eq_getElem?_getD]
  rw [e2]
  refine live_pt ?_
  rw [ob_some, e1]
  have e3 : sliceOf 1 (.slice (.new j) 0 (ps ++ [p]).length 1 none) 0 (ps.length : Int) = some (.slice (.new j) 0 ps.length 1 none) := by
    simp only [sliceOf]
    rw [if_pos ⟨trivial, by omega, by omega, by simp; omega⟩]
    simp
  refine op_sl rfl e3 (op_nil ?_)
  obtain ⟨⟨L0, rfl⟩, g2, ⟨s, hs, h3⟩, h4⟩ := h
  rw [h1] at hs; cases hs
  rcases h3 with ⟨e, _⟩ | ⟨j', rest', h5, h6, h7, h8, h9⟩
  · cases e
  cases h5
  refine op_st (c := [.slice (.new j) 0 (ps ++ [p]).length 1 none]) (vs := [.slice (.new j) 0 ps.length 1 none]) rfl rfl h1 (by simp) ?_
  rw [putAt_all (by simp)]
  have ei : ∀ (M : Heap) (K : AV → Heap → Prop), K (.iface 40 (pt p)) M → aop B E0 M K (.makeIface 40 (.const (pt p))) := fun M K h => h
  refine ei _ _ (tidy_none (hk _ ⟨set_pre g2, g2, ⟨_, get_set (lt_of_get h1), .inr ⟨j, pt p :: rest, rfl, ?_, h7, h8, h9⟩⟩, fun q o hq => ⟨(h4 q o hq).1, ?_⟩⟩))
  · rw [get_set_ne (Ne.symm h8), h2]; simp
  · rw [get_set_ne (Ne.symm (h4 q o hq).1)]; exact (h4 q o hq).2

/-- The method Push. -/
theorem f50_ok {p : Nat} (h : HW H G k ps C) (hb : (ps.length + 1) * 8 ≤ maxBytes) (hk : ∀ G', HW H G' k (ps ++ [p]) C → Q (.tuple []) G') : Cl B 50 [pt k, .iface 40 (pt p)] G Q := by
  refine f50_in fun n cl hn hcl hH hA => op_nil ?_
  obtain ⟨s, h1, h2⟩ := h.psG
  rw [peekV h1 (v := s) rfl, ob_some]
  refine Sl.live (h2.sl (B := B)) _ ?_
  have eass : ∀ K : AV → Heap → Prop, K (pt p) G → aop B E0 G K (.assert 40 false (.ptr none) (.const (.iface 40 (pt p)))) := fun K hK => hK
  refine eass _ ?_
  rw [show layParts [(.ptr none)] [(0, 1, pt p)] = some [pt p] from rfl, ob_some]
  refine slK_in ?_
  have hG := h.grow [.arr [pt p]]
  have hkl := h.klt
  have fin : ∀ (v : AV) (G2 : Heap) (M : List AObj) (j : Nat), G2.length = (G ++ [AObj.arr [pt p]]).length → v = .slice (.new G2.length) 0 (ps.length + 1) 1 none → M = [.arr ((ps ++ [p]).map pt)] → (∃ L, G2 = H ++ L) → G2[k]? = some (.var [s]) → (∀ q o, C q = some o → q ≠ k ∧ G2[q]? = some o) →
      (pt k = pt k) ∧ aop B E0 (G2 ++ M) (fun v10 _ => aop B E0 (G2 ++ M) (fun v11 H12 => tidyK n Q (.tuple []) H12) (.st 1 (.const v10) (.const v))) (.nilCheck (.const (pt k))) := fun v G2 M j hl hv hM hpre hk2 hcs => by
    subst hv hM
    refine ⟨rfl, op_nil ?_⟩
    have hk3 := get_pre (L := [.arr ((ps ++ [p]).map pt)]) hk2
    refine op_st (c := [s]) (vs := [.slice (.new G2.length) 0 (ps.length + 1) 1 none]) rfl rfl hk3 (by simp) ?_
    rw [putAt_all (by simp)]
    have hll : G2.length = G.length + 1 := by rw [hl]; simp
    obtain ⟨L, rfl⟩ := hpre
    refine tidy_none (hk _ ⟨?_, h.kn, ⟨_, get_set (lt_of_get hk3), .inr ⟨(H ++ L).length, [], by simp, ?_, by simp, by omega, h.free (by omega)⟩⟩, fun q o hq => ⟨(hcs q o hq).1, ?_⟩⟩)
    · rw [List.append_assoc]; exact set_pre h.kn
    · rw [get_set_ne (by omega), get_app0]; simp
    · rw [get_set_ne (Ne.symm (hcs q o hq).1)]; exact get_pre (hcs q o hq).2
  have hu : Sl B (G ++ [.arr [pt p]]) 1 (.slice (.new G.length) 0 1 1 (some 1)) [prow p] := sl_row1 rfl
  have hlen : (G ++ [AObj.arr [pt p]]).length = G.length + 1 := by simp
  obtain ⟨g1, g2, ⟨s', hs, h3⟩, h4⟩ := hG
  have h1' := get_pre (L := [.arr [pt p]]) h1
  rw [h1'] at hs; cases hs
  have hel : elemsOf B (G ++ [.arr [pt p]]) (.slice (.new G.length) 0 1 1 (some 1)) = some [pt p] := hu.elems
  rcases h3 with ⟨rfl, rfl⟩ | ⟨j, rest, rfl, h6, h7, h8, h9⟩
  · refine op_app rfl hel rfl (appendTo_nil (by decide) (by simpa using hb)) ?_
    have f1 := fin (.slice (.new (G ++ [AObj.arr [pt p]]).length) 0 1 1 none) (G ++ [.arr [pt p]]) [.arr [pt p]] 0 rfl (by simp) (by simp) g1 h1' h4
    exact f1
  · have hc : cellsAt B (G ++ [.arr [pt p]]) (.new j) 0 (ps.length * 1) = some (ps.map pt) := cellsAt_iff'.2 ⟨ps.map pt ++ rest, by simp only [cellsOf, h6], by simp, by simp⟩
    refine op_app rfl hel rfl (appendTo_own (by decide) hb hc) ?_
    obtain ⟨L1, hL1⟩ := g1
    have f1 := fin (.slice (.new (G ++ [AObj.arr [pt p]]).length) 0 (ps.length + 1) 1 none) ((G ++ [AObj.arr [pt p]]).set j AObj.gone) [AObj.arr (ps.map pt ++ [pt p])] 0 (List.length_set ..) (by rw [List.length_set]) (by rw [List.map_append]; rfl) ?_ ?_ fun q o hq => ⟨(h4 q o hq).1, ?_⟩
    · exact f1
    · rw [hL1]; exact set_pre h7
    · rw [get_set_ne h8]; exact h1'
    · have hne : j ≠ q := fun e => by subst e; rw [hq] at h9; cases h9
      rw [get_set_ne hne]; exact (h4 q o hq).2

end
end Go.Am

/- The package heap: down and up, over cursors. -/
namespace Go.Am
open Go

section
variable {B : Base} {n : Nat} {H G : Heap} {k : Nat} {ps : List Nat} {C : Nat → Option AObj} {D : Nat → Cur} {Q : AV → Heap → Prop}

def CuH (B : Base) (H : Heap) (C : Nat → Option AObj) (p : Nat) (c : Cur) : Prop := ∃ lv, C p = some (.var (c.row lv)) ∧ H.length ≤ p ∧ Sl B H 4 lv (c.l.map E.row)
theorem CuH.g {p : Nat} {c : Cur} (hc : CuH B H C p c) (h : HW H G k ps C) : CuG B G p c := by
  obtain ⟨lv, h1, _, h3⟩ := hc
  obtain ⟨L, hL⟩ := h.pre
  exact ⟨lv, (h.cs p _ h1).2, by rw [hL]; exact h3.pre⟩
/-- All of them are cursors that have a head. -/
def Al (B : Base) (H : Heap) (C : Nat → Option AObj) (D : Nat → Cur) (ps : List Nat) : Prop := ∀ p, p ∈ ps → CuH B H C p (D p) ∧ (D p).alive
theorem gt_mem {i : Nat} (h : i < ps.length) : gt ps i ∈ ps := by rw [gt_eq h]; exact List.getElem_mem h
theorem Al.perm {ps' : List Nat} (h : Al B H C D ps) (hp : ps'.Perm ps) : Al B H C D ps' := fun p hm => h p (hp.mem_iff.1 hm)

def hv (k : Nat) : AV := .iface 44 (pt k)
theorem meth_val {rows : List (TypeId × FuncId × Option Nat)} {f : FuncId} {args : List AV} {K : FuncId → List AV → Prop} {s : AV} (hf : rows.find? (fun r => r.1 == 44) = some (44, f, some 0)) (hk : G[k]? = some (.var [s])) (h : K f (s :: args)) :
    calleeK B E0 G args K (.meth rows (.const (hv k))) := by
  simp only [calleeK, opK, Opd.look, ob_some, hv, hf, if_true]
  rw [show peek B G (pt k) = some s from peekV hk rfl, ob_some]
  exact h
theorem meth_ptr {rows : List (TypeId × FuncId × Option Nat)} {f : FuncId} {args : List AV} {K : FuncId → List AV → Prop} (hf : rows.find? (fun r => r.1 == 44) = some (44, f, none)) (h : K f (pt k :: args)) :
    calleeK B E0 G args K (.meth rows (.const (hv k))) := by
  simp only [calleeK, opK, Opd.look, ob_some, hv, hf]
  exact h

/-- Less, by its method. -/
theorem less_ok {i j : Nat} {K : AV → Heap → Prop} (h : HW H G k ps C) (ha : Al B H C D ps) (hi : i < ps.length) (hj : j < ps.length) (hk : K (.bool ((D (gt ps i)).ahead (D (gt ps j)))) G) :
    calleeK B E0 G [.int .i64 (i : Int), .int .i64 (j : Int)] (fun g z => Cl B g z G K) (.meth [(39, (46, none)), (44, (46, (some 0)))] (.const (hv k))) := by
  obtain ⟨s, h1, h2⟩ := h.psG
  refine meth_val rfl h1 ?_
  have hi' := ha _ (gt_mem hi)
  have hj' := ha _ (gt_mem hj)
  exact f46_ok h2 hi hj (hi'.1.g h) hi'.2 (hj'.1.g h) hj'.2 hk
/-- Swap, by its method. -/
theorem swap_ok {i j : Nat} {K : AV → Heap → Prop} (h : HW H G k ps C) (hi : i < ps.length) (hj : j < ps.length) (hk : ∀ G', HW H G' k (swp ps i j) C → K (.tuple []) G') :
    calleeK B E0 G [.int .i64 (i : Int), .int .i64 (j : Int)] (fun g z => Cl B g z G K) (.meth [(39, (47, none)), (44, (47, (some 0)))] (.const (hv k))) := by
  have hne : ps ≠ [] := by intro e; subst e; simp at hi
  obtain ⟨a, rest, h1, h2⟩ := h.slice hne
  refine meth_val rfl h1 ?_
  exact f47_ok h2 hi hj (hk _ (h.swap h1 h2 swp_len).1)
/-- Len, by its method. -/
theorem len_ok {K : AV → Heap → Prop} (h : HW H G k ps C) (hk : K (.int .i64 (ps.length : Int)) G) :
    calleeK B E0 G [] (fun g z => Cl B g z G K) (.meth [(17, (42, none)), (39, (45, none)), (44, (45, (some 0)))] (.const (hv k))) := by
  obtain ⟨s, h1, h2⟩ := h.psG
  refine meth_val rfl h1 ?_
  exact f45_ok h2 hk

theorem ahead_irrefl (c : Cur) : c.ahead c = false := by
  cases e : c.ahead c with
  | false => rfl
  | true => have := ahead_asymm e; rw [e] at this; cases this

def DownQ (H : Heap) (k : Nat) (C : Nat → Option AObj) (D : Nat → Cur) (ps : List Nat) (lo m : Nat) (Q : AV → Heap → Prop) : Prop :=
  ∀ ps' G' b, HW H G' k ps' C → ps'.Perm ps → (∀ q, m ≤ q → gt ps' q = gt ps q) → HeapF D ps' lo m → Q (.bool b) G'

theorem down_loop {lo m : Nat} (hm : (m : Int) < 4611686018427387904) : ∀ (f i : Nat) (ps : List Nat) (G : Heap), m ≤ i + f → i < 4611686018427387904 → HW H G k ps C → Al B H C D ps → m ≤ ps.length → lo ≤ i → DownI D ps lo i m → DownQ H k C D ps lo m Q →
    L27_7 B (Cl B) n (hv k) (lo : Int) (m : Int) (i : Int) G Q := by
  intro f
  induction f with
  | zero =>
    intro i ps G hf hi h ha hml hlo hd hq
    refine L27_7_in (ACall.cle B table) (J27_6_in ?_)
    rw [w64 (n := 2 * (i : Int)) (by omega), w64 (by omega)]
    rw [decide_eq_true (by omega)]
    refine J27_8_in (ib_gt (tidy_none ?_))
    exact hq ps G _ h (.refl _) (fun _ _ => rfl) (down_end hd fun q h0 h1 h2 => by omega)
  | succ f ih =>
    intro i ps G hf hi h ha hml hlo hd hq
    refine L27_7_in (ACall.cle B table) (J27_6_in ?_)
    rw [w64 (n := 2 * (i : Int)) (by omega), w64 (by omega)]
    refine bs_iff.2 ⟨fun h1 => J27_8_in (ib_gt (tidy_none ?_)), fun h1 => ?_⟩
    · have h1 := of_decide_eq_true h1
      exact hq ps G _ h (.refl _) (fun _ _ => rfl) (down_end hd fun q h0 h1 h2 => by omega)
    · have h1 := of_decide_eq_false h1
      refine bs_no (decide_eq_false (by omega)) (J27_5_in (J27_4_in ?_))
      rw [w64 (n := 2 * (i : Int) + 1 + 1) (by omega)]
      -- behind the choice of the lesser child
      have key : ∀ j : Nat, 0 < j → j < m → (j - 1) / 2 = i → (∀ q, 0 < q → q < m → (q - 1) / 2 = i → (D (gt ps q)).ahead (D (gt ps j)) = false) → J27_3 B (Cl B) n (hv k) (lo : Int) (m : Int) (i : Int) (j : Int) G Q := by
        intro j h0 hj hji hmin
        refine J27_3_in (less_ok h ha (by omega) (by omega) ?_)
        rw [pBool_bool]
        refine bs_iff.2 ⟨fun h2 => J27_2_in (swap_ok h (by omega) (by omega) fun G' h' => ?_), fun h2 => J27_8_in (ib_gt (tidy_none ?_))⟩
        · have hp : (swp ps i j).Perm ps := swp_perm (by omega) (by omega)
          refine live_unit (ih j (swp ps i j) G' (by omega) (by omega) h' (ha.perm hp) (by rw [swp_len]; exact hml) (by omega) (down_step hd hml hlo h0 hj hji h2 hmin) fun ps' G2 b g1 g2 g3 g4 => ?_)
          refine hq ps' G2 b g1 (g2.trans hp) (fun q hq => ?_) g4
          rw [g3 q hq, gt_swp (by omega) (by omega), if_neg (by omega), if_neg (by omega)]
        · exact hq ps G _ h (.refl _) (fun _ _ => rfl) (down_end hd fun q h0 h1 h2' => not_trans h2 (hmin q h0 h1 h2'))
      have e1 : (2 * (i : Int) + 1) = ((2 * i + 1 : Nat) : Int) := by omega
      have e2 : (2 * (i : Int) + 1 + 1) = ((2 * i + 2 : Nat) : Int) := by omega
      rw [e2, e1]
      refine J27_1_in (bs_dec (fun h2 => less_ok h ha (by omega) (by omega) (tyK_bool (J27_0_in ?_))) fun h2 => J27_0_in ?_)
      · rw [pBool_bool]
        split
        · rename_i h3
          refine key _ (by omega) (by omega) (by omega) fun q h4 h5 h6 => ?_
          rcases (show q = 2 * i + 1 ∨ q = 2 * i + 2 by omega) with rfl | rfl
          · exact ahead_asymm h3
          · exact ahead_irrefl _
        · rename_i h3
          refine key _ (by omega) (by omega) (by omega) fun q h4 h5 h6 => ?_
          rcases (show q = 2 * i + 1 ∨ q = 2 * i + 2 by omega) with rfl | rfl
          · exact ahead_irrefl _
          · simpa using h3
      · rw [pBool_bool, if_neg (by decide)]
        refine key _ (by omega) (by omega) (by omega) fun q h4 h5 h6 => ?_
        obtain rfl : q = 2 * i + 1 := by omega
        exact ahead_irrefl _

theorem f27_ok {lo m : Nat} (hm : (m : Int) < 4611686018427387904) (hlo : lo < 4611686018427387904) (h : HW H G k ps C) (ha : Al B H C D ps) (hml : m ≤ ps.length) (hd : HeapF D ps (lo + 1) m) (hq : DownQ H k C D ps lo m Q) :
    Cl B 27 [hv k, .int .i64 (lo : Int), .int .i64 (m : Int)] G Q := by
  refine f27_in fun n cl hn hcl hH hA => ?_
  subst hcl
  exact down_loop hm m lo ps G (by omega) hlo h ha hml (Nat.le_refl _) (down_start hd) hq

theorem up_loop : ∀ (f j : Nat) (ps : List Nat) (G : Heap), j ≤ f → (ps.length : Int) < 4611686018427387904 → HW H G k ps C → Al B H C D ps → j < ps.length → UpI D ps j ps.length → (∀ ps' G', HW H G' k ps' C → ps'.Perm ps → HeapF D ps' 0 ps.length → Q (.tuple []) G') →
    L28_0 B (Cl B) n (hv k) (j : Int) G Q := by
  intro f
  induction f with
  | zero =>
    intro j ps G hf hl h ha hj hu hq
    obtain rfl : j = 0 := by omega
    refine L28_0_in (ACall.cle B table) ?_
    rw [if_neg (by decide)]
    refine bs_yes (by decide) (tidy_none ?_)
    exact hq ps G h (.refl _) (up_end hu fun h0 => by omega)
  | succ f ih =>
    intro j ps G hf hl h ha hj hu hq
    refine L28_0_in (ACall.cle B table) ?_
    rw [if_neg (by decide)]
    rcases Nat.eq_zero_or_pos j with rfl | h0
    · refine bs_yes (by decide) (tidy_none ?_)
      exact hq ps G h (.refl _) (up_end hu fun h0 => by omega)
    · have ew : IntKind.i64.wrap (Int.tdiv (IntKind.i64.wrap ((j : Int) - 1)) 2) = (((j - 1) / 2 : Nat) : Int) := by
        rw [w64 (n := (j : Int) - 1) (by omega)]
        have : (j : Int) - 1 = ((j - 1 : Nat) : Int) := by omega
        rw [this, show Int.tdiv ((j - 1 : Nat) : Int) 2 = (((j - 1) / 2 : Nat) : Int) from rfl, w64 (by omega)]
      rw [ew]
      refine bs_no (beq_eq_false_iff_ne.2 (by omega)) (less_ok h ha (by omega) (by omega) ?_)
      rw [pBool_bool]
      refine bs_iff.2 ⟨fun h2 => swap_ok h (by omega) (by omega) fun G' h' => ?_, fun h2 => tidy_none ?_⟩
      · have hp : (swp ps ((j - 1) / 2) j).Perm ps := swp_perm (by omega) (by omega)
        have hus := up_step hu (Nat.le_refl _) h0 hj h2
        refine live_unit (ih _ _ G' (by omega) (by rw [swp_len]; exact hl) h' (ha.perm hp) (by rw [swp_len]; omega) (by rw [swp_len]; exact hus) fun ps' G2 g1 g2 g3 => ?_)
        rw [swp_len] at g3
        exact hq ps' G2 g1 (g2.trans hp) g3
      · exact hq ps G h (.refl _) (up_end hu fun _ => h2)

theorem f28_ok {j : Nat} (hl : (ps.length : Int) < 4611686018427387904) (h : HW H G k ps C) (ha : Al B H C D ps) (hj : j < ps.length) (hu : UpI D ps j ps.length) (hq : ∀ ps' G', HW H G' k ps' C → ps'.Perm ps → HeapF D ps' 0 ps.length → Q (.tuple []) G') :
    Cl B 28 [hv k, .int .i64 (j : Int)] G Q := by
  refine f28_in fun n cl hn hcl hH hA => ?_
  subst hcl
  exact up_loop j j ps G (Nat.le_refl _) hl h ha hj hu hq

end
end Go.Am

/- The package heap: Init, Pop and Push, over cursors. -/
namespace Go.Am
open Go

section
variable {B : Base} {n : Nat} {H G : Heap} {k : Nat} {ps : List Nat} {C : Nat → Option AObj} {D : Nat → Cur} {Q : AV → Heap → Prop}

theorem init_loop {m : Nat} (hm : (m : Int) < 4611686018427387904) : ∀ (f : Nat) (ps : List Nat) (G : Heap), (f : Int) < 4611686018427387904 → HW H G k ps C → Al B H C D ps → m = ps.length → HeapF D ps f m → (∀ ps' G', HW H G' k ps' C → ps'.Perm ps → HeapF D ps' 0 m → Q (.tuple []) G') →
    L19_0 B (Cl B) n (hv k) (m : Int) ((f : Int) - 1) G Q := by
  intro f
  induction f with
  | zero =>
    intro ps G hf h ha hml hh hq
    refine L19_0_in (ACall.cle B table) (bs_no (decide_eq_false (by omega)) (tidy_none ?_))
    exact hq ps G h (.refl _) hh
  | succ f ih =>
    intro ps G hf h ha hml hh hq
    refine L19_0_in (ACall.cle B table) (bs_yes (decide_eq_true (by omega)) ?_)
    have e : (((f + 1 : Nat) : Int) - 1) = (f : Int) := by omega
    rw [e]
    refine f27_ok (D := D) hm (by omega) h ha (by omega) hh fun ps' G' b g1 g2 g3 g4 => tyK_bool ?_
    rw [w64 (by omega)]
    exact ih ps' G' (by omega) g1 (ha.perm g2) (by rw [hml]; exact g2.length_eq.symm) g4 fun ps2 G2 f1 f2 f3 => hq ps2 G2 f1 (f2.trans g2) f3

/-- Init. -/
theorem f19_ok (hl : (ps.length : Int) < 4611686018427387904) (h : HW H G k ps C) (ha : Al B H C D ps) (hq : ∀ ps' G', HW H G' k ps' C → ps'.Perm ps → HeapF D ps' 0 ps.length → Q (.tuple []) G') : Cl B 19 [hv k] G Q := by
  refine f19_in fun n cl hn hcl hH hA => ?_
  subst hcl
  refine len_ok h ?_
  rw [pInt_int, if_neg (by decide)]
  have e : IntKind.i64.wrap (Int.tdiv (ps.length : Int) 2) = ((ps.length / 2 : Nat) : Int) := by
    rw [show Int.tdiv (ps.length : Int) 2 = ((ps.length / 2 : Nat) : Int) from rfl, w64 (by omega)]
  rw [e, w64 (by omega)]
  exact init_loop hl (ps.length / 2) ps G (by omega) h ha rfl (fun q h0 h1 h2 => by omega) hq

theorem HeapF.take {m : Nat} {qs : List Nat} (h : HeapF D ps 0 m) (e : ∀ i, i < m → gt qs i = gt ps i) : HeapF D qs 0 m := fun q h0 h1 h2 => by
  rw [e q h1, e _ (by omega)]; exact h q h0 h1 h2

/-- Pop. -/
theorem f21_ok (hne : ps ≠ []) (hl : (ps.length : Int) < 4611686018427387904) (h : HW H G k ps C) (ha : Al B H C D ps) (hh : HeapF D ps 0 ps.length)
    (hq : ∀ p ps' G', HW H G' k ps' C → (ps' ++ [p]).Perm ps → HeapF D ps' 0 ps'.length → p = gt ps 0 → (∀ q, q ∈ ps' → (D q).ahead (D p) = false) → Q (.iface 40 (pt p)) G') : Cl B 21 [hv k] G Q := by
  refine f21_in fun n cl hn hcl hH hA => ?_
  subst hcl
  have h0 : 0 < ps.length := List.length_pos_iff.2 hne
  refine len_ok h ?_
  rw [pInt_int, w64 (by omega)]
  have e : (ps.length : Int) - 1 = ((ps.length - 1 : Nat) : Int) := by omega
  rw [e]
  refine swap_ok (i := 0) h h0 (by omega) fun G1 h1 => live_unit ?_
  have hp1 : (swp ps 0 (ps.length - 1)).Perm ps := swp_perm h0 (by omega)
  refine f27_ok (D := D) (lo := 0) (by omega) (by omega) h1 (ha.perm hp1) (by rw [swp_len]; omega) (fun q a1 a2 a3 => ?_) fun ps2 G2 b g1 g2 g3 g4 => tyK_bool ?_
  · rw [gt_swp h0 (by omega), gt_swp h0 (by omega), if_neg (by omega), if_neg (by omega), if_neg (by omega), if_neg (by omega)]
    exact hh q a1 (by omega) (Nat.zero_le _)
  have hlen : ps2.length = ps.length := by rw [g2.length_eq, swp_len]
  have hlast : gt ps2 (ps.length - 1) = gt ps 0 := by
    rw [g3 _ (Nat.le_refl _), gt_swp h0 (by omega), if_pos rfl]
  have hsplit : ps2.take (ps.length - 1) ++ [gt ps 0] = ps2 := by
    have e1 : ps2.drop (ps.length - 1) = [gt ps 0] := by
      rw [List.drop_eq_getElem_cons (by omega), List.drop_eq_nil_of_le (by omega), ← hlast, gt_eq (by omega)]
    rw [← e1, List.take_append_drop]
  rw [← hsplit] at g1
  refine meth_ptr rfl (f49_ok g1 (by rw [List.length_take]; omega) fun G3 h3 => ?_)
  refine tidy_none ?_
  have hperm : (ps2.take (ps.length - 1) ++ [gt ps 0]).Perm ps := by rw [hsplit]; exact g2.trans hp1
  refine hq (gt ps 0) _ G3 h3 hperm ?_ rfl fun q hqm => ?_
  · rw [List.length_take, hlen, show min (ps.length - 1) ps.length = ps.length - 1 by omega]
    refine g4.take fun i hi => ?_
    unfold gt
    simp only [List.getD_eq_getElem?_getD, List.getElem?_take, hi, if_true]
  · have hm : q ∈ ps := hperm.mem_iff.1 (List.mem_append_left _ hqm)
    obtain ⟨i, hi, rfl⟩ := List.mem_iff_getElem.1 hm
    rw [← gt_eq hi]
    exact heap_top hh i hi

/-- Push. -/
theorem f23_ok {p : Nat} (hl : (ps.length + 1) * 8 ≤ maxBytes) (h : HW H G k ps C) (ha : Al B H C D (ps ++ [p])) (hh : HeapF D ps 0 ps.length)
    (hq : ∀ ps' G', HW H G' k ps' C → ps'.Perm (ps ++ [p]) → HeapF D ps' 0 ps'.length → Q (.tuple []) G') : Cl B 23 [hv k, .iface 40 (pt p)] G Q := by
  refine f23_in fun n cl hn hcl hH hA => ?_
  subst hcl
  have hb : (ps.length : Int) + 1 < 4611686018427387904 := by
    have : maxBytes ≤ 4611686018427387904 := by decide
    omega
  refine meth_ptr rfl (f50_ok h hl fun G1 h1 => ?_)
  refine live_unit (len_ok h1 ?_)
  rw [pInt_int]
  have e : IntKind.i64.wrap (((ps ++ [p]).length : Int) - 1) = (ps.length : Int) := by
    rw [List.length_append, List.length_singleton, w64 (by omega)]; omega
  rw [e]
  refine f28_ok (D := D) (by simp; omega) h1 ha (by simp) (by simpa using up_start hh) fun ps' G2 g1 g2 g3 => ?_
  refine live_unit (tidy_none (hq ps' G2 g1 g2 ?_))
  rw [g2.length_eq]; exact g3

end
end Go.Am

/- Slices that grow beside a heap of cursors; Merge: the cursors are made. -/
namespace Go.Am
open Go

def at? : AV → Option Nat
  | .slice (.new j) _ _ _ _ => some j
  | _ => none
/-- A slice that grows by itself. -/
def GrC (H : Heap) (C : Nat → Option AObj) (es : Nat) (v : AV) (rows : List (List AV)) : Prop :=
  (∀ r, r ∈ rows → r.length = es) ∧ ((v = .nils ∧ rows = []) ∨ ∃ j, v = .slice (.new j) 0 rows.length es none ∧ H.length ≤ j ∧ C j = some (.arr rows.flatten))

section
variable {B : Base} {n : Nat} {H G : Heap} {k : Nat} {ps : List Nat} {C : Nat → Option AObj} {D : Nat → Cur} {Q : AV → Heap → Prop}

theorem GrC.at {es : Nat} {v : AV} {rows : List (List AV)} (h : GrC H C es v rows) {j : Nat} (hj : at? v = some j) : C j = some (.arr rows.flatten) := by
  obtain ⟨_, ⟨rfl, _⟩ | ⟨i, rfl, _, h3⟩⟩ := h
  · cases hj
  · cases hj; exact h3
theorem GrC.keep {C' : Nat → Option AObj} {es : Nat} {v : AV} {rows : List (List AV)} (h : GrC H C es v rows) (hk : ∀ j, at? v = some j → C j = some (.arr rows.flatten) → C' j = some (.arr rows.flatten)) : GrC H C' es v rows := by
  obtain ⟨h0, h | ⟨j, rfl, h2, h3⟩⟩ := h
  · exact ⟨h0, .inl h⟩
  · exact ⟨h0, .inr ⟨j, rfl, h2, hk j rfl h3⟩⟩
theorem GrC.sl {es : Nat} {v : AV} {rows : List (List AV)} (hg : GrC H C es v rows) (h : HW H G k ps C) : Sl B G es v rows := by
  obtain ⟨h0, h1 | ⟨j, rfl, h2, h3⟩⟩ := hg
  · exact ⟨h0, .inl h1⟩
  · refine ⟨h0, .inr ⟨_, _, _, rfl, cellsAt_iff'.2 ⟨rows.flatten, by simp only [cellsOf, (h.cs j _ h3).2], by rw [flatten_len h0]; omega, ?_⟩⟩⟩
    rw [List.drop_zero, ← flatten_len h0, List.take_length]

theorem op_appGr {K : AV → Heap → Prop} {es bytes : Nat} {v : AV} {rows : List (List AV)} {row : List AV} (h : HW H G k ps C) (hg : GrC H C es v rows) (hr : row.length = es) (hb : (rows.length + 1) * bytes ≤ maxBytes)
    (hk : ∀ v' G' C', HW H G' k ps C' → GrC H C' es v' (rows ++ [row]) → (∀ j, at? v' = some j → C j = none) → (∀ p o, C p = some o → at? v ≠ some p → C' p = some o) → K v' G') :
    aop B E0 (G ++ [.arr row]) K (.append es bytes (.const v) (.const (.slice (.new G.length) 0 1 es (some 1)))) := by
  have hlen : (G ++ [AObj.arr row]).length = G.length + 1 := by simp
  have hu : Sl B (G ++ [.arr row]) es (.slice (.new G.length) 0 1 es (some 1)) [row] := sl_row1 hr
  have hel : elemsOf B (G ++ [.arr row]) (.slice (.new G.length) 0 1 es (some 1)) = some row := by simpa using hu.elems
  have h1 := h.grow [.arr row]
  obtain ⟨h0, ⟨rfl, rfl⟩ | ⟨j, rfl, hj, hC⟩⟩ := hg
  · refine op_app rfl hel (by omega) (appendTo_nil (by decide) (by simpa using hb)) ?_
    have h2 := h1.add (.arr row)
    refine hk _ _ _ h2 ⟨fun r hm => by simp at hm; subst hm; exact hr, .inr ⟨_, rfl, ?_, ?_⟩⟩ (fun j hj => ?_) fun p o hp _ => ?_
    · have := h.le; omega
    · rw [updC_at]; simp
    · cases hj; exact h.free (by omega)
    · have := h.lt hp
      rw [updC_ne (by omega)]; exact hp
  · have hc : cellsAt B (G ++ [.arr row]) (.new j) 0 (rows.length * es) = some rows.flatten :=
      cellsAt_iff'.2 ⟨rows.flatten, by simp only [cellsOf, (h1.cs j _ hC).2], by rw [flatten_len h0]; omega, by rw [List.drop_zero, ← flatten_len h0, List.take_length]⟩
    refine op_app rfl hel (by omega) (appendTo_own (by decide) hb hc) ?_
    have h2 := (h1.set hC hj .gone).add (.arr (rows.flatten ++ row))
    have hjl := h.lt hC
    have hsl : ((G ++ [AObj.arr row]).set j .gone).length = G.length + 1 := by rw [List.length_set, hlen]
    refine hk _ _ _ h2 ⟨fun r hm => ?_, .inr ⟨(G ++ [AObj.arr row]).length, ?_, ?_, ?_⟩⟩ (fun i hi => ?_) fun p o hp hne => ?_
    · rcases List.mem_append.1 hm with hm | hm
      · exact h0 r hm
      · simp at hm; subst hm; exact hr
    · simp
    · have := h.le; omega
    · rw [hlen, ← hsl, updC_at]; simp
    · cases hi; exact h.free (by omega)
    · have := h.lt hp
      rw [updC_ne (by omega), updC_ne (fun e => hne (by rw [e]; rfl))]; exact hp

/-- A pointer is appended to the heads. -/
theorem push_op {p : Nat} {s : AV} {K : AV → Heap → Prop} (h : HW H G k ps C) (h1 : G[k]? = some (.var [s])) (hb : (ps.length + 1) * 8 ≤ maxBytes)
    (hk : ∀ v G2, (∀ K' : AV → Heap → Prop, (∀ G', HW H G' k (ps ++ [p]) C → K' .dead G') → aop B E0 G2 K' (.st 1 (.const (pt k)) (.const v))) → K v G2) :
    aop B E0 (G ++ [.arr [pt p]]) K (.append 1 8 (.const s) (.const (.slice (.new G.length) 0 1 1 (some 1)))) := by
  have hG := h.grow [.arr [pt p]]
  have hkl := h.klt
  have fin : ∀ (v : AV) (G2 : Heap) (M : List AObj), G2.length = (G ++ [AObj.arr [pt p]]).length → v = .slice (.new G2.length) 0 (ps.length + 1) 1 none → M = [.arr ((ps ++ [p]).map pt)] → (∃ L, G2 = H ++ L) → G2[k]? = some (.var [s]) → (∀ q o, C q = some o → q ≠ k ∧ G2[q]? = some o) →
      K v (G2 ++ M) := fun v G2 M hl hv hM hpre hk2 hcs => by
    subst hv hM
    refine hk _ _ fun K' hK' => ?_
    have hk3 := get_pre (L := [.arr ((ps ++ [p]).map pt)]) hk2
    refine op_st (c := [s]) (vs := [.slice (.new G2.length) 0 (ps.length + 1) 1 none]) rfl rfl hk3 (by simp) ?_
    rw [putAt_all (by simp)]
    have hll : G2.length = G.length + 1 := by rw [hl]; simp
    obtain ⟨L, rfl⟩ := hpre
    refine hK' _ ⟨?_, h.kn, ⟨_, get_set (lt_of_get hk3), .inr ⟨(H ++ L).length, [], by simp, ?_, by simp, by omega, h.free (by omega)⟩⟩, fun q o hq => ⟨(hcs q o hq).1, ?_⟩⟩
    · rw [List.append_assoc]; exact set_pre h.kn
    · rw [get_set_ne (by omega), get_app0]; simp
    · rw [get_set_ne (Ne.symm (hcs q o hq).1)]; exact get_pre (hcs q o hq).2
  have hu : Sl B (G ++ [.arr [pt p]]) 1 (.slice (.new G.length) 0 1 1 (some 1)) [prow p] := sl_row1 rfl
  obtain ⟨g1, g2, ⟨s', hs, h3⟩, h4⟩ := hG
  have h1' := get_pre (L := [.arr [pt p]]) h1
  rw [h1'] at hs; cases hs
  have hel : elemsOf B (G ++ [.arr [pt p]]) (.slice (.new G.length) 0 1 1 (some 1)) = some [pt p] := hu.elems
  rcases h3 with ⟨rfl, rfl⟩ | ⟨j, rest, rfl, h6, h7, h8, h9⟩
  · refine op_app rfl hel rfl (appendTo_nil (by decide) (by simpa using hb)) ?_
    have f1 := fin (.slice (.new (G ++ [AObj.arr [pt p]]).length) 0 1 1 none) (G ++ [AObj.arr [pt p]]) [AObj.arr [pt p]] rfl (by simp) (by simp) g1 h1' h4
    exact f1
  · have hc : cellsAt B (G ++ [.arr [pt p]]) (.new j) 0 (ps.length * 1) = some (ps.map pt) := cellsAt_iff'.2 ⟨ps.map pt ++ rest, by simp only [cellsOf, h6], by simp, by simp⟩
    refine op_app rfl hel rfl (appendTo_own (by decide) hb hc) ?_
    obtain ⟨L1, hL1⟩ := g1
    have f1 := fin (.slice (.new (G ++ [AObj.arr [pt p]]).length) 0 (ps.length + 1) 1 none) ((G ++ [AObj.arr [pt p]]).set j AObj.gone) [AObj.arr (ps.map pt ++ [pt p])] (List.length_set ..) (by rw [List.length_set]) (by rw [List.map_append]; rfl) ?_ ?_ fun q o hq => ⟨(h4 q o hq).1, ?_⟩
    · exact f1
    · rw [hL1]; exact set_pre h7
    · rw [get_set_ne h8]; exact h1'
    · have hne : j ≠ q := fun e => by subst e; rw [hq] at h9; cases h9
      rw [get_set_ne hne]; exact (h4 q o hq).2

/-! ### The cursors at the start -/
def cursFrom : Nat → List (List E) → List Cur
  | _, [] => []
  | i, [] :: r => cursFrom (i + 1) r
  | i, (e :: t) :: r => ⟨e :: t, 0, i⟩ :: cursFrom (i + 1) r
theorem cursFrom_ix : ∀ (ls : List (List E)) (i : Nat), ((cursFrom i ls).map Cur.ix).Pairwise (· < ·) ∧ ∀ c, c ∈ cursFrom i ls → i ≤ c.ix ∧ c.at' = 0 ∧ c.live = true ∧ c.l ∈ ls
  | [], i => ⟨.nil, fun c h => by cases h⟩
  | [] :: r, i => ⟨(cursFrom_ix r (i + 1)).1, fun c h => by
      obtain ⟨h1, h2, h3, h4⟩ := (cursFrom_ix r (i + 1)).2 c h
      exact ⟨by omega, h2, h3, List.mem_cons_of_mem _ h4⟩⟩
  | (e :: t) :: r, i => by
    have ih := cursFrom_ix r (i + 1)
    refine ⟨?_, fun c h => ?_⟩
    · show ((_ :: cursFrom (i + 1) r).map Cur.ix).Pairwise _
      rw [List.map_cons, List.pairwise_cons]
      refine ⟨fun x hx => ?_, ih.1⟩
      obtain ⟨c, hc, rfl⟩ := List.mem_map.1 hx
      exact (ih.2 c hc).1
    · rcases List.mem_cons.1 h with rfl | h
      · exact ⟨Nat.le_refl _, rfl, rfl, List.mem_cons_self ..⟩
      · obtain ⟨h1, h2, h3, h4⟩ := ih.2 c h
        exact ⟨by omega, h2, h3, List.mem_cons_of_mem _ h4⟩
theorem cursFrom_rest : ∀ (ls : List (List E)) (i : Nat), (cursFrom i ls).map Cur.rest = ls.filter fun l => !l.isEmpty
  | [], _ => rfl
  | [] :: r, i => cursFrom_rest r (i + 1)
  | (e :: t) :: r, i => by
    show (_ :: cursFrom (i + 1) r).map Cur.rest = (e :: t) :: r.filter _
    rw [List.map_cons, cursFrom_rest r (i + 1)]; rfl
theorem cursFrom_len : ∀ (ls : List (List E)) (i : Nat), (cursFrom i ls).length ≤ ls.length
  | [], _ => Nat.le_refl _
  | [] :: r, i => Nat.le_succ_of_le (cursFrom_len r (i + 1))
  | (e :: t) :: r, i => Nat.succ_le_succ (cursFrom_len r (i + 1))

/-- The lists stand there. -/
def Ls (B : Base) (H : Heap) (x : AV) (ts : List (AV × List E)) : Prop := Sl B H 1 x (ts.map fun t => [t.1]) ∧ ∀ t, t ∈ ts → Sl B H 4 t.1 (t.2.map E.row)

theorem sl_cells {es : Nat} {v : AV} {rows : List (List AV)} (h : Sl B H es v rows) : v.cells? = some [v] := by
  obtain ⟨_, ⟨rfl, _⟩ | ⟨o, off, cap, rfl, _⟩⟩ := h <;> rfl

def StartQ (B : Base) (H : Heap) (k : Nat) (ls : List (List E)) (P : Heap → Prop) : Prop :=
  ∀ G ps C D, HW H G k ps C → (∀ p, p ∈ ps → CuH B H C p (D p)) → ps.Nodup → ps.map D = cursFrom 0 ls → P G

theorem start_loop {x : AV} {ts : List (AV × List E)} {bot : Bool} (hx : Ls B H x ts) (hb : ts.length * 8 ≤ maxBytes) (hq : StartQ B H k (ts.map (·.2)) fun G => J11_18 B (Cl B) n bot (pt k) G Q) :
    ∀ (r : List (AV × List E)) (i : Nat) (G : Heap) (ps : List Nat) (C : Nat → Option AObj) (D : Nat → Cur), ts.drop i = r → HW H G k ps C → (∀ p, p ∈ ps → CuH B H C p (D p)) → ps.Nodup → ps.map D ++ cursFrom i (r.map (·.2)) = cursFrom 0 (ts.map (·.2)) → ps.length ≤ i →
      L11_3 B (Cl B) n bot (pt k) x (ts.length : Int) (i : Int) G Q := by
  have hbig : maxBytes ≤ 4611686018427387904 := by decide
  intro r
  induction r with
  | nil =>
    intro i G ps C D hd h hc hn he hle
    refine L11_3_in (ACall.cle B table) (ib_lt (J11_2_in ?_))
    have := drop_nil hd
    rw [decide_eq_false (by omega), pBool_bool, if_neg (by decide)]
    exact hq G ps C D h hc hn (by simpa [cursFrom] using he)
  | cons t r ih =>
    intro i G ps C D hd h hc hn he hle
    obtain ⟨h1, h2, h3⟩ := drop_cons hd
    refine L11_3_in (ACall.cle B table) (ib_lt (J11_2_in ?_))
    rw [decide_eq_true (by omega), pBool_bool, if_pos rfl]
    obtain ⟨L, hL⟩ := h.pre
    have hxG : Sl B G 1 x (ts.map fun t => [t.1]) := by rw [hL]; exact hx.1.pre
    have hrow : (ts.map fun t : AV × List E => [t.1])[i]? = some [t.1] := by rw [List.getElem?_map, h1]; rfl
    refine op_idx hxG (by simpa using h2) ?_
    rw [(hxG.el hrow).peek0 rfl, ob_some]
    have htm : t ∈ ts := List.mem_of_getElem? h1
    have hl := hx.2 t htm
    refine Sl.live hl _ (J11_0_in ?_)
    rw [hl.len, ob_some, List.length_map]
    have next : ∀ (G : Heap) (ps : List Nat) (C : Nat → Option AObj) (D : Nat → Cur), HW H G k ps C → (∀ p, p ∈ ps → CuH B H C p (D p)) → ps.Nodup → ps.map D ++ cursFrom (i + 1) (r.map (·.2)) = cursFrom 0 (ts.map (·.2)) → ps.length ≤ i + 1 → J11_1 B (Cl B) n bot (pt k) x (ts.length : Int) (i : Int) G Q := fun G ps C D a1 a2 a3 a4 a5 => by
      refine J11_1_in ?_
      rw [w64 (by omega)]
      exact ih (i + 1) G ps C D h3 a1 a2 a3 a4 a5
    obtain ⟨lv, l⟩ := t
    simp only at hl hrow ⊢
    cases l with
    | nil =>
      refine bs_no (by simp) (next G ps C D h hc hn (by simpa [cursFrom] using he) (by omega))
    | cons e l =>
      refine bs_yes (by simp) ?_
      obtain ⟨s, s1, s2⟩ := h.psG
      rw [show peek B G (pt k) = some s from peekV s1 rfl, ob_some]
      refine Sl.live (s2.sl (B := B)) _ ?_
      have elay : layParts [.nils, (.int .i64 0), (.int .i64 0)] [(0, 1, lv), (2, 1, .int .i64 (i : Int))] = some [lv, .int .i64 0, .int .i64 (i : Int)] := by
        simp only [layParts, sl_cells hl]
        rfl
      rw [elay, ob_some]
      refine op_box rfl rfl ?_
      rw [show layParts [(.ptr none)] [(0, 1, .ptr (some (.new G.length, 0)))] = some [pt G.length] from rfl, ob_some]
      refine slK_in ?_
      have h' := h.add (.var [lv, .int .i64 0, .int .i64 (i : Int)])
      refine push_op (p := G.length) h' (get_pre s1) (by omega) fun v G2 hst => hst _ fun G3 h3' => ?_
      have hfree : C G.length = none := h.free (Nat.le_refl _)
      have hnp : ∀ p, p ∈ ps → p ≠ G.length := fun p hp e => by
        obtain ⟨lw, w1, _⟩ := hc p hp
        rw [e, hfree] at w1; cases w1
      refine next G3 _ _ (fun q => if q = G.length then ⟨e :: l, 0, i⟩ else D q) h3' (fun p hp => ?_) ?_ ?_ (by simp; omega)
      · rcases List.mem_append.1 hp with hp | hp
        · rw [if_neg (hnp p hp)]
          obtain ⟨lw, w1, w2, w3⟩ := hc p hp
          exact ⟨lw, by rw [updC_ne (hnp p hp)]; exact w1, w2, w3⟩
        · simp at hp; subst hp
          rw [if_pos rfl]
          exact ⟨lv, updC_at, h.le, hl⟩
      · rw [List.nodup_append]
        refine ⟨hn, by simp, fun a ha b hb => ?_⟩
        simp at hb; subst hb; exact hnp a ha
      · rw [← he]
        simp only [List.map_append, List.map_cons, List.map_nil, if_true]
        rw [List.map_congr_left (g := D) fun p hp => if_neg (hnp p hp)]
        simp [cursFrom]

end
end Go.Am

/- Merge: the rounds. -/
namespace Go.Am
open Go

section
variable {B : Base} {n : Nat} {H G : Heap} {k : Nat} {ps : List Nat} {C : Nat → Option AObj} {D : Nat → Cur} {Q : AV → Heap → Prop} {all : List Nat} {bot : Bool}

theorem calleeK_val {f : FuncId} {first args captured : List AV} {K : FuncId → List AV → Prop} (h : K f (first ++ args ++ captured)) : calleeK B E0 G args K (.val (.const (.func (.func f) first captured))) := h
theorem HeapF.congr {D' : Nat → Cur} {lo m : Nat} (h : HeapF D ps lo m) (hm : m ≤ ps.length) (he : ∀ p, p ∈ ps → D p = D' p) : HeapF D' ps lo m := fun q h0 h1 h2 => by
  rw [← he _ (gt_mem (by omega)), ← he _ (gt_mem (by omega))]; exact h q h0 h1 h2

/-- The cursors are there; each list has at most M entries. -/
structure Cs (B : Base) (H : Heap) (C : Nat → Option AObj) (all : List Nat) (D : Nat → Cur) : Prop where
  cu : ∀ p, p ∈ all → CuH B H C p (D p)
  nd : all.Nodup
  ix : (all.map fun p => (D p).ix).Pairwise (· < ·)
  many : all.length * 8 ≤ maxBytes
  len : ∀ p, p ∈ all → ((D p).l.length : Int) < 4611686018427387904

theorem CuH.keep {C' : Nat → Option AObj} {p : Nat} {c : Cur} (h : CuH B H C p c) (hk : ∀ p c, C p = some (.var c) → C' p = some (.var c)) : CuH B H C' p c := by
  obtain ⟨lv, h1, h2, h3⟩ := h
  exact ⟨lv, hk _ _ h1, h2, h3⟩
theorem Cs.keep {C' : Nat → Option AObj} (h : Cs B H C all D) (hk : ∀ p c, C p = some (.var c) → C' p = some (.var c)) : Cs B H C' all D := ⟨fun p hp => (h.cu p hp).keep hk, h.nd, h.ix, h.many, h.len⟩
/-- In the heap are just those that are told. -/
structure In (ps : List Nat) (P : Nat → Prop) : Prop where
  nd : ps.Nodup
  iff : ∀ p, p ∈ ps ↔ P p
theorem In.len {P : Nat → Prop} (h : In ps P) (hP : ∀ p, P p → p ∈ all) : ps.length ≤ all.length := by
  exact List.Nodup.length_le_of_subset h.nd fun p hp => hP p ((h.iff p).1 hp)

/-- The heap stands, with all that is left. -/
def NextQ (B : Base) (H : Heap) (k : Nat) (all : List Nat) (D : Nat → Cur) (v : AV) (rows : List (List AV)) (P : Heap → Prop) : Prop :=
  ∀ G ps C, HW H G k ps C → Cs B H C all D → In ps (fun p => p ∈ all ∧ (D p).live = true) → HeapF D ps 0 ps.length → GrC H C 4 v rows → P G

def passD (D : Nat → Cur) (l : List Nat) (p : Nat) : Cur := if p ∈ l then (D p).adv else D p

theorem pass_loop {rs : List Nat} {w v : AV} {rows : List (List AV)} (hrn : rs.Nodup) (hra : ∀ p, p ∈ rs → p ∈ all ∧ (D p).live = true) (hq : NextQ B H k all (passD D rs) v rows fun G => L11_16 B (Cl B) n bot (pt k) v G Q) :
    ∀ (r : List Nat) (i : Nat) (G : Heap) (ps : List Nat) (C : Nat → Option AObj), rs.drop i = r → HW H G k ps C → Cs B H C all (passD D (rs.take i)) → In ps (fun p => p ∈ all ∧ (passD D (rs.take i) p).live = true ∧ p ∉ r) → HeapF (passD D (rs.take i)) ps 0 ps.length → GrC H C 4 v rows → GrC H C 1 w (rs.map prow) →
      L11_10 B (Cl B) n bot (pt k) v w (rs.length : Int) (i : Int) G Q := by
  have hbig : maxBytes ≤ 4611686018427387904 := by decide
  intro r
  induction r with
  | nil =>
    intro i G ps C hd h hc hin hh hv hw
    refine L11_10_in (ACall.cle B table) (ib_lt (J11_9_in ?_))
    have hle := drop_nil hd
    rw [decide_eq_false (by omega), pBool_bool, if_neg (by decide)]
    rw [List.take_of_length_le hle] at hc hin hh
    exact hq G ps C h hc ⟨hin.nd, fun p => (hin.iff p).trans (by simp)⟩ hh hv
  | cons p r ih =>
    intro i G ps C hd h hc hin hh hv hw
    obtain ⟨h1, h2, h3⟩ := drop_cons hd
    refine L11_10_in (ACall.cle B table) (ib_lt (J11_9_in ?_))
    rw [decide_eq_true (by omega), pBool_bool, if_pos rfl]
    have hwG : Sl B G 1 w (rs.map prow) := hw.sl h
    have hrow : (rs.map prow)[i]? = some [pt p] := by rw [List.getElem?_map, h1]; rfl
    refine op_idx hwG (by simpa using h2) ?_
    rw [(hwG.el hrow).peek0 rfl, ob_some]
    refine live_pt (J11_7_in (calleeK_val ?_))
    have hpr : p ∈ rs := List.mem_of_getElem? h1
    obtain ⟨hpa, hpl⟩ := hra p hpr
    have hsplit : rs = rs.take i ++ p :: r := by rw [← hd, List.take_append_drop]
    have hnt : p ∉ rs.take i := fun hm => by
      rw [hsplit] at hrn
      exact (List.nodup_append.1 hrn).2.2 p hm p (List.mem_cons_self ..) rfl
    have hnr : p ∉ r := by
      rw [hsplit] at hrn
      exact (List.nodup_cons.1 (List.nodup_append.1 hrn).2.1).1
    have htake : rs.take (i + 1) = rs.take i ++ [p] := by
      rw [List.take_add_one, h1]; rfl
    have hDp : passD D (rs.take i) p = D p := if_neg hnt
    have hD' : ∀ q, passD D (rs.take (i + 1)) q = if q = p then (D p).adv else passD D (rs.take i) q := fun q => by
      unfold passD
      rw [htake]
      by_cases e : q = p
      · subst e; simp
      · simp [e]
    have hcp := hc.cu p hpa
    rw [hDp] at hcp
    obtain ⟨lv, c1, c2, c3⟩ := hcp
    have hlen := hc.len p hpa
    rw [hDp] at hlen
    have hal : (D p).at' < (D p).l.length := live_iff.1 hpl
    obtain ⟨L, hL⟩ := h.pre
    refine f22_ok (c := D p) ⟨lv, (h.cs p _ c1).2, by rw [hL]; exact c3.pre⟩ (by omega) fun lv' e1 _ => ?_
    have e2 : lv' = lv := by
      rw [(h.cs p _ c1).2] at e1
      injection e1 with e1; injection e1 with e1; injection e1 with e1
      exact e1.symm
    subst e2
    rw [pBool_bool]
    have hC : ∀ q c, q ≠ p → C q = some c → updC C p (.var ((D p).adv.row lv')) q = some c := fun q c hq hc => by rw [updC_ne hq]; exact hc
    have hset := h.set c1 c2 (.var ((D p).adv.row lv'))
    have hc' : Cs B H (updC C p (.var ((D p).adv.row lv'))) all (passD D (rs.take (i + 1))) := by
      refine ⟨fun q hqa => ?_, hc.nd, ?_, hc.many, fun q hqa => ?_⟩
      · rw [hD' q]
        by_cases e : q = p
        · subst e; rw [if_pos rfl]; exact ⟨lv', updC_at, c2, c3⟩
        · rw [if_neg e]
          obtain ⟨lw, w1, w2, w3⟩ := hc.cu q hqa
          exact ⟨lw, hC q _ e w1, w2, w3⟩
      · have := hc.ix
        rw [List.map_congr_left (g := fun q => (passD D (rs.take i) q).ix) fun q _ => ?_]
        · exact this
        · show (passD D (rs.take (i + 1)) q).ix = (passD D (rs.take i) q).ix
          rw [hD' q]
          by_cases e : q = p
          · subst e; rw [if_pos rfl, hDp]; rfl
          · rw [if_neg e]
      · rw [hD' q]
        by_cases e : q = p
        · rw [if_pos e]; exact hlen
        · rw [if_neg e]; exact hc.len q hqa
    have hat : ∀ {es : Nat} {u : AV} {rw' : List (List AV)}, GrC H C es u rw' → GrC H (updC C p (.var ((D p).adv.row lv'))) es u rw' := fun {es u rw'} hg => hg.keep fun j hj hC' => by
      have hjp : j ≠ p := fun e => by subst e; rw [c1] at hC'; cases hC'
      exact hC j _ hjp hC'
    have hpn : p ∉ ps := fun hm => ((hin.iff p).1 hm).2.2 (List.mem_cons_self ..)
    have hh' : HeapF (passD D (rs.take (i + 1))) ps 0 ps.length := hh.congr (Nat.le_refl _) fun q hq => by
      rw [hD' q, if_neg (fun e : q = p => hpn (e ▸ hq))]
    have next : ∀ (G : Heap) (ps : List Nat), HW H G k ps (updC C p (.var ((D p).adv.row lv'))) → In ps (fun q => q ∈ all ∧ (passD D (rs.take (i + 1)) q).live = true ∧ q ∉ r) → HeapF (passD D (rs.take (i + 1))) ps 0 ps.length → J11_8 B (Cl B) n bot (pt k) v w (rs.length : Int) (i : Int) G Q := fun G ps a1 a2 a3 => by
      refine J11_8_in ?_
      have hrl : rs.length ≤ all.length := List.Nodup.length_le_of_subset hrn fun q hq => (hra q hq).1
      have := hc.many
      rw [w64 (by omega)]
      exact ih (i + 1) G ps _ h3 a1 hc' a2 a3 (hat hv) (hat hw)
    have hinOld : ∀ q, q ≠ p → (q ∈ ps ↔ q ∈ all ∧ (passD D (rs.take (i + 1)) q).live = true ∧ q ∉ r) := fun q hqp => by
      rw [hin.iff q, hD' q, if_neg hqp]
      simp [hqp]
    have hal2 : Al B H (updC C p (.var ((D p).adv.row lv'))) (passD D (rs.take (i + 1))) ps := fun q hq => by
      have hqp : q ≠ p := fun e => hpn (e ▸ hq)
      have := (hinOld q hqp).1 hq
      exact ⟨hc'.cu q this.1, live_iff.1 this.2.1⟩
    refine bs_iff.2 ⟨fun hlive => ?_, fun hdead => ?_⟩
    · have hadv : (passD D (rs.take (i + 1)) p).live = true := by rw [hD' p, if_pos rfl]; exact hlive
      have hlenp : ps.length + 1 ≤ all.length := by
        have hn2 : (ps ++ [p]).Nodup := List.nodup_append.2 ⟨hin.nd, by simp, fun a ha b hb => by simp at hb; subst hb; exact fun e => hpn (e ▸ ha)⟩
        have := List.Nodup.length_le_of_subset hn2 (l₂ := all) fun q hq => by
          rcases List.mem_append.1 hq with hq | hq
          · exact ((hin.iff q).1 hq).1
          · simp at hq; subst hq; exact hpa
        simpa using this
      have := hc.many
      refine f23_ok (D := passD D (rs.take (i + 1))) (p := p) (by omega) hset (fun q hq => ?_) hh' fun ps' G' g1 g2 g3 => live_unit ?_
      · rcases List.mem_append.1 hq with hq | hq
        · exact hal2 q hq
        · simp at hq; subst hq; exact ⟨hc'.cu q hpa, live_iff.1 hadv⟩
      · refine next G' ps' g1 ⟨?_, fun q => ?_⟩ g3
        · rw [g2.nodup_iff]
          exact List.nodup_append.2 ⟨hin.nd, by simp, fun a ha b hb => by simp at hb; subst hb; exact fun e => hpn (e ▸ ha)⟩
        · rw [g2.mem_iff, List.mem_append, List.mem_singleton]
          by_cases e : q = p
          · subst e; simp [hpa, hadv, hnr]
          · rw [← hinOld q e]; simp [e]
    · have hadv : (passD D (rs.take (i + 1)) p).live = false := by rw [hD' p, if_pos rfl]; exact hdead
      refine next _ ps hset ⟨hin.nd, fun q => ?_⟩ hh'
      by_cases e : q = p
      · subst e; simp [hpn, hadv]
      · exact hinOld q e

end
end Go.Am

/- Merge: what it answers. -/
namespace Go.Am
open Go

theorem len_le_tot : ∀ {ls : List (List E)} {l : List E}, l ∈ ls → l.length ≤ tot ls
  | [], _, h => by cases h
  | x :: r, l, h => by
    rw [tot_cons]
    rcases List.mem_cons.1 h with rfl | h
    · omega
    · have := len_le_tot h; omega

section
variable {B : Base} {n : Nat} {H G : Heap} {k : Nat} {ps : List Nat} {C : Nat → Option AObj} {D : Nat → Cur} {Q : AV → Heap → Prop} {all : List Nat} {bot : Bool}

theorem op_iface {t : TypeId} {p : Nat} {K : AV → Heap → Prop} (hk : K (.iface t (pt p)) G) : aop B E0 G K (.makeIface t (.const (pt p))) := hk
theorem op_assert {p : Nat} {K : AV → Heap → Prop} (hk : K (pt p) G) : aop B E0 G K (.assert 40 false (.ptr none) (.const (.iface 40 (pt p)))) := hk
theorem live_iface {t : TypeId} {v : AV} {K : AV → Prop} (hk : K (.iface t v)) : pLive (.iface t v) K := hk

/-- What stands while the heads of a key are taken. -/
structure Rd (B : Base) (H G : Heap) (k : Nat) (C : Nat → Option AObj) (all : List Nat) (D : Nat → Cur) (ps rs : List Nat) (v w : AV) (rows : List (List AV)) (ke : Nat) (e : E) : Prop where
  hw : HW H G k ps C
  cs : Cs B H C all D
  he : C ke = some (.var e.row)
  nd : (rs ++ ps).Nodup
  iff : ∀ p, p ∈ rs ++ ps ↔ p ∈ all ∧ (D p).live = true
  hp : HeapF D ps 0 ps.length
  rk : ∀ p, p ∈ rs → (D p).key = e.key
  gv : GrC H C 4 v rows
  gw : GrC H C 1 w (rs.map prow)
  ap : ∀ j, at? v = some j → at? w ≠ some j

theorem Rd.al {rs : List Nat} {v w : AV} {rows : List (List AV)} {ke : Nat} {e : E} (h : Rd B H G k C all D ps rs v w rows ke e) : Al B H C D ps := fun p hp => by
  have := (h.iff p).1 (List.mem_append_right _ hp)
  exact ⟨h.cs.cu p this.1, live_iff.1 this.2⟩

theorem pop_loop {v : AV} {rows : List (List AV)} {ke : Nat} {e : E} (hq : ∀ G ps C rs w, Rd B H G k C all D ps rs v w rows ke e → (∀ p, p ∈ ps → (D p).key ≠ e.key) → J11_12 B (Cl B) n bot (pt k) v (pt ke) w G Q) :
    ∀ (f : Nat) (G : Heap) (ps : List Nat) (C : Nat → Option AObj) (rs : List Nat) (w : AV), ps.length ≤ f → Rd B H G k C all D ps rs v w rows ke e → (∀ p, p ∈ ps → Le e.key (D p).key) → L11_5 B (Cl B) n bot (pt k) v (pt ke) w G Q := by
  have hbig : maxBytes ≤ 4611686018427387904 := by decide
  intro f
  induction f with
  | zero =>
    intro G ps C rs w hf h hle
    have : ps = [] := List.length_eq_zero_iff.1 (by omega)
    subst this
    obtain ⟨s, s1, s2⟩ := h.hw.psG
    refine L11_5_in (ACall.cle B table) ?_
    rw [show peek B G (pt k) = some s from peekV s1 rfl, ob_some]
    refine Sl.live (s2.sl (B := B)) _ ?_
    rw [(s2.sl (B := B)).len, ob_some]
    refine ib_gt ?_
    rw [pGuard_bool]
    refine bs_no (by simp) ⟨rfl, rfl, J11_4_in ?_⟩
    rw [pBool_bool, if_neg (by decide)]
    exact hq G [] C rs w h fun p hp => by cases hp
  | succ f ih =>
    intro G ps C rs w hf h hle
    obtain ⟨s, s1, s2⟩ := h.hw.psG
    refine L11_5_in (ACall.cle B table) ?_
    have epk : peek B G (pt k) = some s := peekV s1 rfl
    rw [epk, ob_some]
    refine Sl.live (s2.sl (B := B)) _ ?_
    rw [(s2.sl (B := B)).len, ob_some]
    refine ib_gt ?_
    rw [pGuard_bool, List.length_map]
    cases hps : ps with
    | nil =>
      refine bs_no (by simp) ⟨rfl, rfl, J11_4_in ?_⟩
      rw [pBool_bool, if_neg (by decide)]
      subst hps
      exact hq G [] C rs w h fun p hp => by cases hp
    | cons p0 pr =>
      rw [← hps]
      have h0 : 0 < ps.length := by rw [hps]; simp
      have hne : ps ≠ [] := by rw [hps]; simp
      refine bs_yes (decide_eq_true (by omega)) ?_
      rw [ob_some]
      refine Sl.live (s2.sl (B := B)) _ (op_idx' (i := 0) (s2.sl (B := B)) rfl (by simpa using h0) ?_)
      rw [s2.get h0, ob_some]
      have hg0 := gt_mem h0
      have hal := h.al _ hg0
      have hke := (h.hw.cs ke _ h.he).2
      refine live_pt (op_fldP ?_)
      have epe : peek B G (.ptr (some (.new ke, 0 + 0))) = some (.str e.key) := peekV hke rfl
      rw [epe, ob_some, pStr_str]
      refine f20_ok (hal.1.g h.hw) hal.2 (live_agg ⟨?_, op_fldP rfl, op_fieldS (s := (D (gt ps 0)).key) rfl ?_⟩)
      · rw [epe, ob_some, pStr_str]
      rw [pStr_str]
      refine sb_eqq (J11_4_in ?_)
      rw [pBool_bool]
      split
      · rename_i hk
        have hk : (D (gt ps 0)).key = e.key := by simpa using hk
        have hlen : ps.length ≤ all.length := List.Nodup.length_le_of_subset (List.nodup_append.1 h.nd).2.1 fun p hp => ((h.iff p).1 (List.mem_append_right _ hp)).1
        have hlen2 : (rs ++ ps).length ≤ all.length := List.Nodup.length_le_of_subset h.nd fun p hp => ((h.iff p).1 hp).1
        rw [List.length_append] at hlen2
        have hmany := h.cs.many
        refine op_iface (f21_ok hne (by omega) h.hw h.al h.hp fun p ps' G' g1 g2 g3 g4 g5 => live_iface (op_assert ?_))
        rw [show layParts [(.ptr none)] [(0, 1, pt p)] = some [pt p] from rfl, ob_some]
        refine slK_in (op_appGr g1 h.gw rfl (by simp; omega) fun w' G2 C' k1 k2 k3 k4 => ?_)
        have hvar : ∀ q c, C q = some (.var c) → C' q = some (.var c) := fun q c hq' => k4 q _ hq' fun e2 => by
          have := h.gw.at e2
          rw [hq'] at this; cases this
        have hperm : (rs ++ [p] ++ ps').Perm (rs ++ ps) := by
          rw [List.append_assoc]
          exact List.Perm.append_left rs (List.perm_append_comm.trans g2)
        have hps' : ps'.length + 1 = ps.length := by
          have := g2.length_eq
          simpa using this
        refine ih G2 ps' C' (rs ++ [p]) w' (by omega) ⟨k1, h.cs.keep hvar, hvar _ _ h.he, hperm.nodup_iff.2 h.nd, fun q => hperm.mem_iff.trans (h.iff q), g3, fun q hq' => ?_, ?_, by rw [List.map_append]; exact k2, fun j hj hj' => ?_⟩ fun q hq' => hle q ?_
        · rcases List.mem_append.1 hq' with hq' | hq'
          · exact h.rk q hq'
          · simp at hq'; subst hq'; rw [g4]; exact hk
        · exact h.gv.keep fun j hj hC => k4 j _ hC fun e2 => h.ap j hj e2
        · have := h.gv.at hj
          rw [k3 j hj'] at this; cases this
        · exact g2.mem_iff.1 (List.mem_append_left _ hq')
      · rename_i hk
        have hk : (D (gt ps 0)).key ≠ e.key := by simpa using hk
        refine hq G ps C rs w h fun p hp e2 => hk ?_
        obtain ⟨i, hi, rfl⟩ := List.mem_iff_getElem.1 hp
        rw [← gt_eq hi] at e2
        have h1 := (ahead_not.1 (heap_top h.hp i hi)).1
        rw [e2] at h1
        exact h1.antisymm (hle _ hg0)

theorem pass_round {v : AV} {rows : List (List AV)} {rs : List Nat} {w : AV} {ke : Nat} {e : E} (h : Rd B H G k C all D ps rs v w rows ke e) (hne : ∀ p, p ∈ ps → (D p).key ≠ e.key) (hb : (rows.length + 1) * 48 ≤ maxBytes)
    (hq : ∀ v', (∀ p, p ∈ rs ↔ p ∈ all ∧ (D p).live = true ∧ (D p).key = e.key) → NextQ B H k all (passD D rs) v' (rows ++ (out1 bot e).map E.row) fun G => L11_16 B (Cl B) n bot (pt k) v' G Q) : J11_12 B (Cl B) n bot (pt k) v (pt ke) w G Q := by
  have hrs : ∀ p, p ∈ rs ↔ p ∈ all ∧ (D p).live = true ∧ (D p).key = e.key := fun p => by
    constructor
    · intro hp
      have := (h.iff p).1 (List.mem_append_left _ hp)
      exact ⟨this.1, this.2, h.rk p hp⟩
    · rintro ⟨h1, h2, h3⟩
      rcases List.mem_append.1 ((h.iff p).2 ⟨h1, h2⟩) with h4 | h4
      · exact h4
      · exact absurd h3 (hne p h4)
  have hke := (h.hw.cs ke _ h.he).2
  have hpd : passD D [] = D := funext fun p => if_neg (by simp)
  have tail : ∀ (G : Heap) (C : Nat → Option AObj) (v' : AV), HW H G k ps C → Cs B H C all D → GrC H C 4 v' (rows ++ (out1 bot e).map E.row) → GrC H C 1 w (rs.map prow) → J11_11 B (Cl B) n bot (pt k) v' w G Q := fun G C v' a1 a2 a3 a4 => by
    refine J11_11_in ?_
    rw [(a4.sl (B := B) a1).len, ob_some, List.length_map]
    refine pass_loop (D := D) (List.nodup_append.1 h.nd).1 (fun p hp => ⟨((hrs p).1 hp).1, ((hrs p).1 hp).2.1⟩) (hq v' hrs) rs 0 G ps C rfl a1 ?_ ?_ ?_ a3 a4
    · rw [List.take_zero, hpd]; exact a2
    · rw [List.take_zero, hpd]
      refine ⟨(List.nodup_append.1 h.nd).2.1, fun p => ?_⟩
      have := h.iff p
      rw [List.mem_append] at this
      have hd : p ∈ ps → p ∉ rs := fun h1 h2 => (List.nodup_append.1 h.nd).2.2 p h2 p h1 rfl
      constructor
      · intro hp
        have h2 := this.1 (.inr hp)
        exact ⟨h2.1, h2.2, hd hp⟩
      · rintro ⟨h1, h2, h3⟩
        exact (this.2 ⟨h1, h2⟩).resolve_left h3
    · rw [List.take_zero, hpd]; exact h.hp
  have j6 : ∀ b, b = !(bot && e.del) → J11_6 B (Cl B) n bot (pt k) v (pt ke) w (.bool b) G Q := fun b hb' => by
    refine J11_6_in ?_
    rw [pBool_bool]
    split
    · rename_i hb1
      have ho : out1 bot e = [e] := by unfold out1; rw [if_neg (by rw [hb1] at hb'; intro e2; rw [e2] at hb'; cases hb')]
      rw [show peekN B G 4 (pt ke) = some e.row from peekVN hke rfl, ob_some]
      rw [show layParts [(.str []), (.str []), (.bool false), (.int .i64 0)] [(0, 4, .agg e.row)] = some e.row from lay_row (n := 4) rfl rfl, ob_some]
      refine slK_in (op_appGr h.hw h.gv rfl hb fun v' G2 C' k1 k2 k3 k4 => ?_)
      have hvar : ∀ q c, C q = some (.var c) → C' q = some (.var c) := fun q c hq' => k4 q _ hq' fun e2 => by
        have := h.gv.at e2
        rw [hq'] at this; cases this
      refine tail G2 C' v' k1 (h.cs.keep hvar) (by rw [ho]; exact k2) (h.gw.keep fun j hj hC => k4 j _ hC fun e2 => h.ap j e2 hj)
    · rename_i hb1
      have ho : out1 bot e = [] := by unfold out1; rw [if_pos (by cases hbe : (bot && e.del) <;> simp_all)]
      refine tail G C v h.hw h.cs (by rw [ho]; simpa using h.gv) h.gw
  refine J11_12_in ?_
  cases bot with
  | true =>
    refine bs_yes rfl (op_fldP ?_)
    rw [peekV hke (v := .bool e.del) (i := 0 + 2) rfl, ob_some]
    exact tyK_bool (op_notB (j6 _ rfl))
  | false => exact bs_no rfl (j6 _ rfl)

theorem main_loop (hq : Prop) {res : List E} (hfin : ∀ v G C, HW H G k [] C → GrC H C 4 v (res.map E.row) → Q v G) :
    ∀ (f : Nat) (D : Nat → Cur) (out : List E) (v : AV) (G : Heap) (ps : List Nat) (C : Nat → Option AObj), tot (all.map fun p => (D p).rest) ≤ f → (out.length + f) * 48 ≤ maxBytes → HW H G k ps C → Cs B H C all D → In ps (fun p => p ∈ all ∧ (D p).live = true) → HeapF D ps 0 ps.length → GrC H C 4 v (out.map E.row) → res = out ++ mergeF f (all.map fun p => (D p).rest) bot →
      L11_16 B (Cl B) n bot (pt k) v G Q := by
  intro f
  induction f with
  | zero =>
    intro D out v G ps C hf hb h hc hin hh hv hr
    have hps : ps = [] := by
      cases ps with
      | nil => rfl
      | cons p r =>
        have := (hin.iff p).1 (List.mem_cons_self ..)
        have h2 : (D p).rest ∈ all.map fun p => (D p).rest := List.mem_map.2 ⟨p, this.1, rfl⟩
        have h3 : ((D p).rest).length ≤ tot (all.map fun p => (D p).rest) := by
          exact len_le_tot h2
        rw [rest_live this.2, List.length_cons] at h3
        omega
    subst hps
    obtain ⟨s, s1, s2⟩ := h.psG
    refine L11_16_in (ACall.cle B table) ?_
    rw [show peek B G (pt k) = some s from peekV s1 rfl, ob_some]
    refine Sl.live (s2.sl (B := B)) _ ?_
    rw [(s2.sl (B := B)).len, ob_some]
    refine bs_no (by simp) (J11_17_in (tidy_none ?_))
    refine hfin v G C h ?_
    rw [hr, show mergeF 0 (all.map fun p => (D p).rest) bot = [] from rfl, List.append_nil]
    exact hv
  | succ f ih =>
    intro D out v G ps C hf hb h hc hin hh hv hr
    obtain ⟨s, s1, s2⟩ := h.psG
    have epk : peek B G (pt k) = some s := peekV s1 rfl
    refine L11_16_in (ACall.cle B table) ?_
    rw [epk, ob_some]
    refine Sl.live (s2.sl (B := B)) _ ?_
    rw [(s2.sl (B := B)).len, ob_some, List.length_map]
    have hmm : (all.map fun p => (D p).rest) = (all.map D).map Cur.rest := by rw [List.map_map]; rfl
    cases hps : ps with
    | nil =>
      subst hps
      refine bs_no (by simp) (J11_17_in (tidy_none ?_))
      refine hfin v G C h ?_
      rw [hr, hmm, end_pure fun d hd => ?_, List.append_nil]
      · exact hv
      · obtain ⟨p, hp, rfl⟩ := List.mem_map.1 hd
        cases e : (D p).live with
        | false => rfl
        | true => have := (hin.iff p).2 ⟨hp, e⟩; cases this
    | cons p0 pr =>
      rw [← hps]
      have h0 : 0 < ps.length := by rw [hps]; simp
      refine bs_yes (decide_eq_true (by omega)) (J11_15_in ?_)
      rw [epk, ob_some]
      refine Sl.live (s2.sl (B := B)) _ (op_idx' (i := 0) (s2.sl (B := B)) rfl (by simpa using h0) ?_)
      rw [s2.get h0, ob_some]
      have hg0 := gt_mem h0
      obtain ⟨ha, hl⟩ := (hin.iff _).1 hg0
      have hcu := hc.cu _ ha
      refine live_pt (f20_ok (hcu.g h) (live_iff.1 hl) (live_agg (op_alloc (op_st_last rfl rfl (J11_14_in (J11_13_in ?_))))))
      have h' := h.add (.var (D (gt ps 0)).hd.row)
      have hC : ∀ p o, C p = some o → updC C G.length (.var (D (gt ps 0)).hd.row) p = some o := fun p o hp => by
        have := h.lt hp
        rw [updC_ne (by omega)]; exact hp
      have hmin : ∀ p, p ∈ ps → (D p).ahead (D (gt ps 0)) = false := fun p hp => by
        obtain ⟨i, hi, rfl⟩ := List.mem_iff_getElem.1 hp
        rw [← gt_eq hi]
        exact heap_top hh i hi
      refine pop_loop (fun G2 ps2 C2 rs w hrd hne => pass_round hrd hne (by rw [List.length_map]; omega) fun v' hrs G3 ps3 C3 a1 a2 a3 a4 a5 => ?_) ps.length _ ps _ [] .nils (Nat.le_refl _) (rows := out.map E.row) (e := (D (gt ps 0)).hd)
        ⟨h', hc.keep fun p c hp => hC p _ hp, updC_at, by simpa using hin.nd, by simpa using hin.iff, hh, fun p hp => by simp at hp, hv.keep fun j _ hj => hC j _ hj, ⟨fun r hr => by simp at hr, .inl ⟨rfl, rfl⟩⟩, fun j _ hj => by cases hj⟩ fun p hp => (ahead_not.1 (hmin p hp)).1
      rw [← List.map_append] at a5
      have hrs' : ∀ p, p ∈ rs ↔ p ∈ all ∧ (D p).live = true ∧ (D p).key = (D (gt ps 0)).key := hrs
      have hpass : (all.map fun p => (passD D rs p).rest) = ((all.map D).map (Cur.pass (D (gt ps 0)).key)).map Cur.rest := by
        rw [List.map_map, List.map_map]
        refine List.map_congr_left fun p hp => ?_
        show (passD D rs p).rest = (Cur.pass (D (gt ps 0)).key (D p)).rest
        unfold passD Cur.pass
        by_cases hm : p ∈ rs
        · rw [if_pos hm, if_pos ((hrs' p).1 hm).2]
        · rw [if_neg hm, if_neg (fun hx => hm ((hrs' p).2 ⟨hp, hx⟩))]
      have hround := round_pure (f := f) (bot := bot) (cs := all.map D) (c := D (gt ps 0)) (by rw [List.map_map]; exact hc.ix) (List.mem_map.2 ⟨_, ha, rfl⟩) hl fun d hd hdl => by
        obtain ⟨p, hp, rfl⟩ := List.mem_map.1 hd
        exact hmin p ((hin.iff p).2 ⟨hp, hdl⟩)
      have hlen1 : (out1 bot (D (gt ps 0)).hd).length ≤ 1 := by unfold out1; split <;> simp
      have htot : tot (all.map fun p => (passD D rs p).rest) < tot (all.map fun p => (D p).rest) := by
        rw [hpass, hmm]
        have e3 : ((all.map D).map (Cur.pass (D (gt ps 0)).key)).map Cur.rest = ((all.map D).map Cur.rest).map (stepL (D (gt ps 0)).key) := by
          simp only [List.map_map]
          exact List.map_congr_left fun d _ => rest_pass _ (D d)
        rw [e3]
        exact tot_step_lt ⟨(D (gt ps 0)).hd, mem_hds.2 ⟨_, List.mem_map.2 ⟨_, ha, rfl⟩, hl, rfl⟩, rfl⟩
      refine ih (passD D rs) (out ++ out1 bot (D (gt ps 0)).hd) v' G3 ps3 C3 (by omega) (by rw [List.length_append]; omega) a1 a2 a3 a4 a5 ?_
      rw [hr, hmm, hround, hpass, List.append_assoc]

/-- A slice that stands by itself behind H. -/
def Gr (H L : Heap) (es : Nat) (v : AV) (rows : List (List AV)) : Prop :=
  (∀ r, r ∈ rows → r.length = es) ∧ ((v = .nils ∧ rows = []) ∨ ∃ j, v = .slice (.new (H.length + j)) 0 rows.length es none ∧ L[j]? = some (.arr rows.flatten))
theorem Gr.sl {L : Heap} {es : Nat} {v : AV} {rows : List (List AV)} (h : Gr H L es v rows) : Sl B (H ++ L) es v rows := by
  obtain ⟨h0, h1 | ⟨j, rfl, h3⟩⟩ := h
  · exact ⟨h0, .inl h1⟩
  · refine ⟨h0, .inr ⟨_, _, _, rfl, cellsAt_iff'.2 ⟨rows.flatten, by simp only [cellsOf, get_app, h3], by rw [flatten_len h0]; omega, ?_⟩⟩⟩
    rw [List.drop_zero, ← flatten_len h0, List.take_length]

/-- The function Merge: many lists are one. -/
theorem f11_ok {x : AV} {ts : List (AV × List E)} (hx : Ls B H x ts) (hb : ts.length * 8 ≤ maxBytes) (ht : tot (ts.map (·.2)) * 48 ≤ maxBytes)
    (hq : ∀ v L, Gr H L 4 v ((mergeF (tot (ts.map (·.2))) (ts.map (·.2)) bot).map E.row) → Q v (H ++ L)) : Cl B 11 [x, .bool bot] H Q := by
  refine f11_in fun n cl hn hcl hH hA => op_alloc ?_
  subst hcl
  rw [hx.1.len, ob_some, List.length_map]
  have hstart : HW H (H ++ [.var [.nils]]) H.length [] (fun _ => none) := ⟨⟨_, rfl⟩, Nat.le_refl _, ⟨.nils, by rw [get_app0]; rfl, .inl ⟨rfl, rfl⟩⟩, fun p o hp => by cases hp⟩
  have hbig : maxBytes ≤ 4611686018427387904 := by decide
  refine start_loop hx hb (fun G ps C D h hc hn he => ?_) ts 0 _ [] _ (fun _ => ⟨[], 0, 0⟩) rfl hstart (fun p hp => by cases hp) .nil (by simp) (Nat.le_refl _)
  refine J11_18_in (op_iface ?_)
  have hcf := cursFrom_ix (ts.map (·.2)) 0
  have hD : ∀ p, p ∈ ps → 0 ≤ (D p).ix ∧ (D p).at' = 0 ∧ (D p).live = true ∧ (D p).l ∈ ts.map (·.2) := fun p hp => hcf.2 (D p) (by rw [← he]; exact List.mem_map.2 ⟨p, hp, rfl⟩)
  have hlen : ps.length ≤ ts.length := by
    have := cursFrom_len (ts.map (·.2)) 0
    rw [← he, List.length_map, List.length_map] at this
    exact this
  have hcs : Cs B H C ps D := ⟨hc, hn, by
    have := hcf.1
    rw [← he, List.map_map] at this
    exact this, by omega, fun p hp => by
    have h1 : (D p).l.length ≤ tot (ts.map (·.2)) := by
      exact len_le_tot (hD p hp).2.2.2
    omega⟩
  refine f19_ok (D := D) (by omega) h (fun p hp => ⟨hc p hp, live_iff.1 (hD p hp).2.2.1⟩) fun ps' G' g1 g2 g3 => live_unit ?_
  have hrest : (ps.map fun p => (D p).rest) = (ts.map (·.2)).filter fun l => !l.isEmpty := by
    rw [← cursFrom_rest _ 0, ← he, List.map_map]; rfl
  have htot : ∀ ls : List (List E), tot (ls.filter fun l => !l.isEmpty) = tot ls := by
    intro ls
    induction ls with
    | nil => rfl
    | cons l r ih =>
      cases l with
      | nil => rw [tot_cons, ← ih]; simp
      | cons e t => rw [List.filter_cons_of_pos (by rfl), tot_cons, tot_cons, ih]
  refine main_loop True (res := mergeF (tot (ts.map (·.2))) (ts.map (·.2)) bot) (all := ps) (fun v G C h hg => ?_) (tot (ts.map (·.2))) D [] .nils G' ps' C (by rw [hrest, htot]; exact Nat.le_refl _) (by simpa using ht) g1 hcs ⟨g2.nodup_iff.2 hn, fun p => ?_⟩ (by rw [g2.length_eq]; exact g3) ⟨fun r hr => by simp at hr, .inl ⟨rfl, rfl⟩⟩ ?_
  · obtain ⟨L, rfl⟩ := h.pre
    refine hq v L ?_
    obtain ⟨h0, h1 | ⟨j, rfl, h2, h3⟩⟩ := hg
    · exact ⟨h0, .inl h1⟩
    · refine ⟨h0, .inr ⟨j - H.length, by congr 2; omega, ?_⟩⟩
      have := (h.cs j _ h3).2
      rw [List.getElem?_append_right h2] at this
      exact this
  · rw [g2.mem_iff]
    exact ⟨fun hp => ⟨hp, (hD p hp).2.2.1⟩, fun h => h.1⟩
  · rw [List.nil_append, hrest]
    exact mergeF_filter _ _ _ _ (by rw [List.filter_filter]; simp)

end
end Go.Am
