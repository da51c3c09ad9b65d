/- A call from outside: the world that is met is the ground. -/
import Derived.Test.YtonfcbadaebjnaaAm15
namespace Go.Am
open Go Go.RowKit

/-- A cell of the ground. -/
def baseAv : Value → Option AV
  | .bool b => some (.bool b)
  | .int k i => some (.int k i)
  | .string s => some (.str s.data.toList)
  | _ => none
def baseCells : List Value → List AV
  | [] => []
  | x :: r => match baseAv x with
    | some v => v :: baseCells r
    | none => []
/-- The ground: each block, from each cell on, as far as it translates. -/
def baseOf (W : World) : Base := fun b s => match W.heap[b]? with
  | some (.cells c _ _) => if s / 65536 ≤ c.size then some (baseCells (c.toList.drop (s / 65536))) else none
  | _ => none

def plc0 : Plcs := fun _ => ⟨0, 0, 0⟩

theorem baseAv_ok {x : Value} {v : AV} (h : baseAv x = some v) : v.one = true ∧ VR 0 plc0 v x := by
  cases x <;> simp only [baseAv, Option.some.injEq, reduceCtorEq] at h
  all_goals subst h; simp [AV.one, VR]

theorem baseCells_get : ∀ {l : List Value} {j : Nat} {u : AV}, (baseCells l)[j]? = some u → ∃ x, l[j]? = some x ∧ baseAv x = some u
  | [], j, u, h => by simp [baseCells] at h
  | x :: r, j, u, h => by
    unfold baseCells at h
    split at h
    · rename_i v hv
      cases j with
      | zero => simp at h; subst h; exact ⟨x, rfl, hv⟩
      | succ j => simp at h; obtain ⟨y, h1, h2⟩ := baseCells_get h; exact ⟨y, by simpa using h1, h2⟩
    · simp at h

theorem baseCells_length : ∀ (l : List Value), (baseCells l).length ≤ l.length
  | [] => by simp [baseCells]
  | x :: r => by
    unfold baseCells
    split
    · simpa using baseCells_length r
    · simp

/-- All of a world as the ground. -/
def bwOf (W : World) : Bw := ⟨W, fun b => b < W.heap.size, fun _ h => h⟩

theorem baseOf_ok (W : World) : BaseOk (baseOf W) (bwOf W) := by
  refine ⟨fun b s cs h => ?_⟩
  unfold baseOf at h
  split at h
  · rename_i c e f hc
    split at h
    · rename_i hs
      cases h
      refine ⟨fun v hv => ?_, (Array.getElem?_eq_some_iff.1 hc).1, c, e, f, hc, ?_, fun j u hu => ?_⟩
      · obtain ⟨j, hj⟩ := List.mem_iff_getElem?.1 hv
        obtain ⟨x, _, h2⟩ := baseCells_get hj
        exact (baseAv_ok h2).1
      · have := baseCells_length (c.toList.drop (s / 65536))
        simp at this
        omega
      · obtain ⟨x, h1, h2⟩ := baseCells_get hu
        exact ⟨x, by simpa using h1, (baseAv_ok h2).2⟩
    · cases h
  · cases h

/-- A call that the machine makes at no objects of its own: so does the model, at the world that is the ground. -/
theorem entry {P : Program} {F : FuncId → Option AFunc} (hF : TableOk P F) {W : World} {f : FuncId} {as : List AV} {args : Array Value} (hv : VRL 0 plc0 as args.toList) {Q : AV → Heap → Prop} (h : ACall (baseOf W) F f as [] Q) :
    Calls P f args W fun e W' => (∃ v H m x, Q v H ∧ e = .returned x ∧ VR H.length m v x) ∧ Below W.heap.size W W' := by
  have R : Rel (bwOf W) plc0 [] W := ⟨⟨rfl, rfl, rfl, Nat.le_refl _, fun _ _ => rfl⟩, fun k o h => by simp at h, fun k l o o' h => by simp at h⟩
  obtain ⟨_, hs⟩ := call_ok (baseOf_ok W) hF f as [] Q h
  refine (hs plc0 W args R hv).mono fun e w' hr => ?_
  obtain ⟨v, H', m', x, h1, h2, _, h4, h5⟩ := hr
  exact ⟨⟨v, H', m', x, h1, h2, h5⟩, ⟨h4.below.os, h4.below.tape, h4.below.output, h4.below.size, h4.below.block⟩⟩

/-- What is asked behind a function's code. -/
def fnQ (B : Base) (fn : AFunc) (Q : AV → Heap → Prop) : KQ := fun x env' H' => match x with
  | .exit _ => False
  | _ => ressK B env' H' fn.res fun vs => Q (resultOf vs) H'
/-- A sign that the kernel opens last. -/
def wait (p : Prop) : Prop := p
theorem wait_eq (p : Prop) : wait p = p := propext ⟨fun h => h, fun h => h⟩

end Go.Am
