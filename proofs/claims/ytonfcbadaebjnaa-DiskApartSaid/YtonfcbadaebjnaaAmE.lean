/- The law's arguments, met: cells of flat types, slices of rows of them. -/
import Derived.Test.YtonfcbadaebjnaaAmS
import Derived.ProofKit
namespace Go.Am
open Go

/-- Parts that stand one behind another. -/
def kindsF (P : Program) (g : TypeId → Option (List Ty)) : List (Nat × TypeId) → Nat → Option (List Ty)
  | [], _ => some []
  | (o, e) :: r, off => if o = off then (g e).bind fun l => if l.length = P.cellsOf e then (kindsF P g r (off + l.length)).map (l ++ ·) else none else none

/-- The kinds of a flat type's cells. -/
def kinds (P : Program) : Nat → TypeId → Option (List Ty)
  | 0, _ => none
  | f + 1, t => match P.underlying t with
    | some .bool => some [.bool]
    | some (.int k) => some [.int k]
    | some .string => some [.str]
    | some (.struct fs) => (kindsF P (kinds P f) (fs.toList.map fun f => (f.offset, f.type)) 0).bind fun l => if l.length = P.cellsOf t then some l else none
    | some (.array n e) => (kindsF P (kinds P f) ((List.range n).map fun i => (i * P.cellsOf e, e)) 0).bind fun l => if l.length = P.cellsOf t then some l else none
    | _ => none

section
variable {X : Type} {enc : TypeId × Value → X} {P : Program} {w : World} {base : Nat} {sp : Nat → Bool} {held : Bool}

end

/-- A value of a kind. -/
def avIs : Ty → AV → Prop
  | .int k, u => ∃ n, u = .int k n ∧ (Lit.int k n).wf = true
  | .bool, u => ∃ b, u = .bool b
  | .str, u => ∃ s : List UInt8, u = .str s ∧ s.length ≤ maxLen
  | .other, _ => False
theorem flatten_get {es : Nat} {rows : List (List AV)} (hl : ∀ r, r ∈ rows → r.length = es) {j : Nat} {u : AV} (h : rows.flatten[j]? = some u) : ∃ i row, rows[i]? = some row ∧ i * es ≤ j ∧ row[j - i * es]? = some u := by
  induction rows generalizing j with
  | nil => simp at h
  | cons r rs ih =>
    have hr := hl r (List.mem_cons_self ..)
    simp only [List.flatten_cons] at h
    rcases Nat.lt_or_ge j r.length with hlt | hge
    · rw [List.getElem?_append_left hlt] at h
      exact ⟨0, r, rfl, by omega, by simpa using h⟩
    · rw [List.getElem?_append_right hge] at h
      obtain ⟨i, row, h1, h2, h3⟩ := ih (fun x hx => hl x (List.mem_cons_of_mem _ hx)) h
      refine ⟨i + 1, row, by simpa using h1, by rw [Nat.add_mul]; omega, ?_⟩
      rw [← h3]; congr 1; rw [Nat.add_mul]; omega

section
variable {X : Type} {enc : TypeId × Value → X} {P : Program} {W : World} {base : Nat}

end

end Go.Am
