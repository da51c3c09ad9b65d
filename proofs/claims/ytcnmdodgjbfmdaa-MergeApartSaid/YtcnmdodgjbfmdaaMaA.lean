/- The arguments of the laws about merge, met: lists of entries, and lists of these. -/
import Derived.Test.YtcnmdodgjbfmdaaAmN
import Derived.Test.YtcnmdodgjbfmdaaMrA
import Derived.Test.YtcnmdodgjbfmdaaAf
namespace Go.Am
open Go Go.Proofs

theorem ents_of_rows : ∀ {rows : List (List AV)}, (∀ r, r ∈ rows → rowIs [.str, .str, .bool, .int .i64] r) → ∃ l : List E, rows = l.map E.row
  | [], _ => ⟨[], rfl⟩
  | r :: rs, h => by
    obtain ⟨l, hl⟩ := ents_of_rows (rows := rs) fun x hx => h x (List.mem_cons_of_mem _ hx)
    obtain ⟨hlen, hg⟩ := h r (List.mem_cons_self ..)
    obtain ⟨_, g0, k, rfl, _⟩ := hg 0 .str rfl
    obtain ⟨_, g1, v, rfl, _⟩ := hg 1 .str rfl
    obtain ⟨_, g2, b, rfl⟩ := hg 2 .bool rfl
    obtain ⟨_, g3, n, rfl, _⟩ := hg 3 (.int .i64) rfl
    match r, hlen, g0, g1, g2, g3 with
    | [a, b', c, d], _, g0, g1, g2, g3 =>
      simp at g0 g1 g2 g3
      subst g0 g1 g2 g3
      exact ⟨⟨k, v, b, n⟩ :: l, by rw [hl]; rfl⟩

theorem kinds_ent : kinds Try.prog 6 29 = some [.str, .str, .bool, .int .i64] := by kernel_rfl
theorem cells_ent : Try.prog.cellsOf 29 = 4 := by kernel_rfl
theorem cells_list : Try.prog.cellsOf 25 = 1 := by kernel_rfl
theorem under_list : Try.prog.underlying 25 = some (.slice 29) := by kernel_rfl
theorem under_lists : Try.prog.underlying 22 = some (.slice 25) := by kernel_rfl
theorem under_bools : Try.prog.underlying 36 = some (.slice 4) := by kernel_rfl
theorem kinds_bool : kinds Try.prog 6 4 = some [.bool] := by kernel_rfl
theorem cells_bool : Try.prog.cellsOf 4 = 1 := by kernel_rfl
theorem under_int : Try.prog.underlying 3 = some (.int .i64) := by kernel_rfl
theorem under_bool : Try.prog.underlying 4 = some .bool := by kernel_rfl

section
variable {X : Type} {enc : TypeId × Value → X} {W : World} {base : Nat}
/-- Lists of entries among the arguments. -/
theorem arg_lists {v : Value} {d : DataW X} {p : List MemPlace} (hval : Value.okWide Try.prog W .any base 22 v) (hd : DataW.Trod enc Try.prog W 0 (fun _ => true) true 22 v d p) :
    ∃ (b0 : Nat) (av : AV) (ts : List (AV × List E)), VR 0 plc0 av v ∧ Ls (baseN 4 b0 W) [] av ts := by
  obtain ⟨b0, av, ts, h1, h2, h3⟩ := arg_nested under_lists under_list cells_list kinds_ent cells_ent (by decide) hval hd
  have key : ∀ ts : List (AV × List (List AV)), (∀ t, t ∈ ts → Sl (baseN 4 b0 W) [] 4 t.1 t.2 ∧ ∀ r, r ∈ t.2 → rowIs [.str, .str, .bool, .int .i64] r) → ∃ us : List (AV × List E), us.map (fun u => [u.1]) = ts.map (fun t => [t.1]) ∧ ∀ u, u ∈ us → Sl (baseN 4 b0 W) [] 4 u.1 (u.2.map E.row) := by
    intro ts
    induction ts with
    | nil => intro _; exact ⟨[], rfl, fun u hu => by cases hu⟩
    | cons t r ih =>
      intro h
      obtain ⟨us, e1, e2⟩ := ih fun x hx => h x (List.mem_cons_of_mem _ hx)
      obtain ⟨g1, g2⟩ := h t (List.mem_cons_self ..)
      obtain ⟨l, hl⟩ := ents_of_rows g2
      refine ⟨(t.1, l) :: us, by simp [e1], fun u hu => ?_⟩
      rcases List.mem_cons.1 hu with rfl | hu
      · rw [hl] at g1; exact g1
      · exact e2 u hu
  obtain ⟨us, e1, e2⟩ := key ts h3
  exact ⟨b0, av, us, h1, by rw [e1]; exact h2, e2⟩
/-- A list of entries among the arguments. -/
theorem arg_list {v : Value} {d : DataW X} {p : List MemPlace} (hval : Value.okWide Try.prog W .any base 25 v) (hd : DataW.Trod enc Try.prog W 0 (fun _ => true) true 25 v d p) :
    ∃ (av : AV) (l : List E), VR 0 plc0 av v ∧ Sl (baseOf W) [] 4 av (l.map E.row) := by
  obtain ⟨av, rows, h1, h2, h3⟩ := arg_slice under_list kinds_ent cells_ent (by decide) hval hd
  obtain ⟨l, rfl⟩ := ents_of_rows h3
  exact ⟨av, l, h1, h2⟩
theorem bools_of_rows : ∀ {rows : List (List AV)}, (∀ r, r ∈ rows → rowIs [.bool] r) → ∃ l : List Bool, rows = l.map fun b => [.bool b]
  | [], _ => ⟨[], rfl⟩
  | r :: rs, h => by
    obtain ⟨l, hl⟩ := bools_of_rows (rows := rs) fun x hx => h x (List.mem_cons_of_mem _ hx)
    obtain ⟨hlen, hg⟩ := h r (List.mem_cons_self ..)
    obtain ⟨_, g0, b, rfl⟩ := hg 0 .bool rfl
    match r, hlen, g0 with
    | [a], _, g0 =>
      simp at g0
      subst g0
      exact ⟨b :: l, by rw [hl]; rfl⟩
/-- A list of bools among the arguments. -/
theorem arg_bools {v : Value} {d : DataW X} {p : List MemPlace} (hval : Value.okWide Try.prog W .any base 36 v) (hd : DataW.Trod enc Try.prog W 0 (fun _ => true) true 36 v d p) :
    ∃ (av : AV) (l : List Bool), VR 0 plc0 av v ∧ Sl (baseOf W) [] 1 av (l.map fun b => [.bool b]) := by
  obtain ⟨av, rows, h1, h2, h3⟩ := arg_slice under_bools kinds_bool cells_bool (by decide) hval hd
  obtain ⟨l, rfl⟩ := bools_of_rows h3
  exact ⟨av, l, h1, h2⟩
theorem arg_bool {v : Value} (hval : Value.okWide Try.prog W .any base 4 v) : ∃ b, v = .bool b := WideShapes.okWide_bool under_bool hval
end
end Go.Am
