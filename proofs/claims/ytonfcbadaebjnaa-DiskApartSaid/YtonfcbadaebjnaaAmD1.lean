/- A new object that is made early: its value on the ground, its object, and what a step leaves of both. -/
import Derived.Test.YtonfcbadaebjnaaAmD
namespace Go.Am
open Go Go.RowKit

/-! ### What is low -/
theorem lowL_iff {n : Nat} : ∀ {l : List AV}, LowL n l ↔ ∀ v ∈ l, Low n v
  | [] => by simp [LowL, RVL]
  | v :: l => by
    have := lowL_iff (n := n) (l := l)
    simp only [LowL] at this
    simp only [LowL, RVL, this, List.mem_cons, forall_eq_or_imp]
    rfl
theorem plain_low {n : Nat} {v : AV} (h : v.plainB = true) : Low n v := by
  cases v <;> simp only [AV.plainB, Bool.false_eq_true] at h
  case ptr o => cases o <;> simp_all [Low, RV, AV.plainB]
  case map o => cases o <;> simp_all [Low, RV, AV.plainB]
  all_goals simp [Low, RV]
theorem low_vr {n n' : Nat} {m : Plcs} {v : AV} {x : Value} (hl : Low n v) (h : VR n' m v x) : VR n m v x := RV_ok _ _ _ hl h
theorem low_cells {n : Nat} {v : AV} {c : List AV} (h : Low n v) (hc : v.cells? = some c) : LowL n c := by
  cases v <;> simp only [AV.cells?, Option.some.injEq, reduceCtorEq] at hc
  case agg l => subst hc; simp only [Low, RV] at h; exact h.2
  all_goals subst hc; exact lowL_iff.2 (by simpa using h)
theorem lowL_putAt {n : Nat} {c vs : List AV} {i : Nat} (h1 : LowL n c) (h2 : LowL n vs) : LowL n (putAt c i vs) := by
  rw [lowL_iff] at h1 h2 ⊢
  intro v hv
  simp only [putAt, List.mem_append] at hv
  rcases hv with (hv | hv) | hv
  · exact h1 v (List.mem_of_mem_take hv)
  · exact h2 v hv
  · exact h1 v (List.mem_of_mem_drop hv)

/-! ### The cells of a new object -/
def partsO (env : Env) : List (Nat × Nat × Opd) → Option (List (Nat × Nat × AV))
  | [] => some []
  | (i, n, x) :: r => match x.look env, partsO env r with
    | some v, some vs => some ((i, n, v) :: vs)
    | _, _ => none
theorem partsK_iff {env : Env} : ∀ {ps : List (Nat × Nat × Opd)} {K : List (Nat × Nat × AV) → Prop}, partsK env ps K ↔ ∃ vs, partsO env ps = some vs ∧ K vs
  | [], K => by simp [partsK, partsO]
  | (i, n, x) :: r, K => by
    simp only [partsK, opK, ob_iff, partsK_iff (ps := r), partsO]
    constructor
    · rintro ⟨v, h1, vs, h2, h3⟩; exact ⟨_, by rw [h1, h2], h3⟩
    · rintro ⟨vs, h1, h2⟩
      split at h1
      · rename_i v vs' h3 h4
        simp only [Option.some.injEq] at h1
        subst h1
        exact ⟨v, h3, vs', h4, h2⟩
      · cases h1

def newCells (env : Env) : AOp → Option (List AV)
  | .alloc z => some z
  | .box n x => (x.look env).bind fun v => v.cells?.bind fun c => if c.length = n then some c else none
  | .buildSlice _ _ z ps => (partsO env ps).bind fun vs => layParts z vs
  | _ => none
def newVal (o : AOp) (i : Id) : AV :=
  match o with
  | .buildSlice es len _ _ => .slice i 0 len es (some len)
  | _ => .ptr (some (i, 0))
def newVar : AOp → Bool
  | .buildSlice .. => false
  | _ => true
def newObj (o : AOp) (c : List AV) : AObj := if newVar o then .var c else .arr c

theorem new_form {B : Base} {env : Env} {H : Heap} {K : AV → Heap → Prop} {o : AOp} (ho : o.isNew = true) :
    aop B env H K o ↔ ∃ c, newCells env o = some c ∧ K (newVal o (.new H.length)) (H ++ [newObj o c]) := by
  cases o <;> simp only [AOp.isNew, Bool.false_eq_true] at ho
  case alloc z => simp [aop, newCells, newVal, newObj, newVar]
  case box n x =>
    simp only [aop, opK, ob_iff, newCells, newVal, newObj, newVar, if_true, Option.bind_eq_some_iff]
    constructor
    · rintro ⟨v, h1, c, h2, h3⟩
      split at h3
      · rename_i hl; exact ⟨c, ⟨v, h1, c, h2, by rw [if_pos hl]⟩, h3⟩
      · exact h3.elim
    · rintro ⟨c, ⟨v, h1, c', h2, h4⟩, h3⟩
      split at h4
      · rename_i hl; simp only [Option.some.injEq] at h4; subst h4; exact ⟨v, h1, c', h2, by rw [if_pos hl]; exact h3⟩
      · cases h4
  case buildSlice es len z ps =>
    simp only [aop, partsK_iff, ob_iff, newCells, newVal, newObj, newVar, Bool.false_eq_true, if_false, Option.bind_eq_some_iff]
    constructor
    · rintro ⟨vs, h1, c, h2, h3⟩; exact ⟨c, ⟨vs, h1, h2⟩, h3⟩
    · rintro ⟨c, ⟨vs, h1, h2⟩, h3⟩; exact ⟨vs, h1, c, h2, h3⟩

theorem partsO_cong {env env' : Env} : ∀ {l : List (Nat × Nat × Opd)}, (∀ x ∈ l.map (·.2.2), x.look env' = x.look env) → partsO env' l = partsO env l
  | [], _ => rfl
  | (i, n, x) :: r, h => by
    simp only [partsO, h x (by simp), partsO_cong (l := r) fun y hy => h y (by simp only [List.map_cons, List.mem_cons]; exact .inr hy)]
theorem newCells_cong {env env' : Env} {o : AOp} (h : ∀ x ∈ o.reads, x.look env' = x.look env) : newCells env' o = newCells env o := by
  cases o <;> simp only [newCells]
  case box n x => rw [h x (by simp [AOp.reads])]
  case buildSlice es len z ps => rw [partsO_cong (by simpa [AOp.reads] using h)]

theorem partsO_low {n : Nat} {m : Plcs} {env : Env} {a : Act} (E : EnvR n m env a) : ∀ {ps : List (Nat × Nat × Opd)} {vs : List (Nat × Nat × AV)}, (∀ x ∈ ps.map (·.2.2), ∀ v, x.look env = some v → Low n v) → partsO env ps = some vs → ∀ p ∈ vs, Low n p.2.2
  | [], vs, _, h => by simp only [partsO, Option.some.injEq] at h; subst h; simp
  | (i, k, x) :: r, vs, hx, h => by
    simp only [partsO] at h
    split at h
    · rename_i v vs' h3 h4
      simp only [Option.some.injEq] at h
      subst h
      intro p hp
      rcases List.mem_cons.1 hp with rfl | hp
      · exact hx x (by simp) v h3
      · exact partsO_low E (fun y hy => hx y (by simp only [List.map_cons, List.mem_cons]; exact .inr hy)) h4 p hp
    · cases h
theorem layParts_low {n : Nat} : ∀ {vs : List (Nat × Nat × AV)} {c c' : List AV}, LowL n c → (∀ p ∈ vs, Low n p.2.2) → layParts c vs = some c' → LowL n c'
  | [], c, c', h, _, hl => by simp only [layParts, Option.some.injEq] at hl; subst hl; exact h
  | (off, k, v) :: r, c, c', h, hv, hl => by
    simp only [layParts] at hl
    split at hl
    · rename_i vs hc
      split at hl
      · exact layParts_low (lowL_putAt h (low_cells (hv _ (List.mem_cons_self ..)) hc)) (fun p hp => hv p (List.mem_cons_of_mem _ hp)) hl
      · cases hl
    · cases hl
theorem newCells_low {n : Nat} {m : Plcs} {env : Env} {a : Act} (E : EnvR n m env a) {o : AOp} (ho : o.isNew = true) {c : List AV} (h : newCells env o = some c) : LowL n c := by
  have hlook : ∀ {x : Opd}, x.plainB = true → ∀ v, x.look env = some v → Low n v := fun {x} hp v hv => by
    cases x with
    | tmp t => exact low_of_VR _ _ (E.2 t v hv)
    | const z => simp only [Opd.look, Option.some.injEq] at hv; subst hv; exact plain_low hp
    | global g => simp only [Opd.look, Option.some.injEq] at hv; subst hv; simp [Low, RV, Id.ok, Id.ren]
    | func f => simp only [Opd.look, Option.some.injEq] at hv; subst hv; simp [Low, RV, RVL]
  cases o <;> simp only [AOp.isNew, Bool.false_eq_true, List.all_eq_true, Bool.and_eq_true] at ho
  case alloc z => simp only [newCells, Option.some.injEq] at h; subst h; exact lowL_iff.2 fun v hv => plain_low (ho v hv)
  case box k x =>
    simp only [newCells, Option.bind_eq_some_iff] at h
    obtain ⟨v, h1, c', h2, h3⟩ := h
    split at h3
    · simp only [Option.some.injEq] at h3; subst h3; exact low_cells (hlook ho v h1) h2
    · cases h3
  case buildSlice es len z ps =>
    simp only [newCells, Option.bind_eq_some_iff] at h
    obtain ⟨vs, h1, h2⟩ := h
    exact layParts_low (lowL_iff.2 fun v hv => plain_low (ho.1 v hv)) (partsO_low E (fun x hx => by
      obtain ⟨p, hp, rfl⟩ := List.mem_map.1 hx
      exact hlook (ho.2 p hp)) h1) h2

/-! ### The value, on the ground and as an object's -/
theorem Id.base_beg {m m' : Plcs} {b s : Nat} (hb : b = (m s).blk) : (Id.base b (65536 * (m s).base)).blk m' = (Id.new s).blk m ∧ (Id.base b (65536 * (m s).base)).beg m' = (Id.new s).beg m := by
  subst hb
  exact ⟨rfl, Nat.mul_div_cancel_left _ (by decide)⟩
theorem newVal_base {o : AOp} {n k n' : Nat} {m m' : Plcs} {x : Value} (h : VR n m (newVal o (.new k)) x) : VR n' m' (newVal o (.base (m k).blk (65536 * (m k).base))) x := by
  obtain ⟨e1, e2⟩ := Id.base_beg (m := m) (m' := m') (s := k) rfl
  unfold newVal at h ⊢
  split at h
  · simp only [VR, SlR, adr] at h ⊢
    rw [e1, e2]
    obtain ⟨_, a, c, h1, h2, h3⟩ := h
    exact ⟨trivial, a, c, h1, h2, h3⟩
  · simp only [VR, adr] at h ⊢
    rw [e1, e2]
    exact ⟨trivial, h.2⟩
theorem newVal_new {o : AOp} {n k n' : Nat} {m m' : Plcs} {q : Plc} {x : Value} (hm : m k = q) (hk : k < n) (h : VR n' m' (newVal o (.base q.blk (65536 * q.base))) x) : VR n m (newVal o (.new k)) x := by
  subst hm
  obtain ⟨e1, e2⟩ := Id.base_beg (m := m) (m' := m') (s := k) rfl
  unfold newVal at h ⊢
  split at h
  · simp only [VR, SlR, adr] at h ⊢
    rw [e1, e2] at h
    obtain ⟨_, a, c, h1, h2, h3⟩ := h
    exact ⟨hk, a, c, h1, h2, h3⟩
  · simp only [VR, adr] at h ⊢
    rw [e1, e2] at h
    exact ⟨hk, h.2⟩

/-! ### The object -/
def PObj (n : Nat) (m : Plcs) (w : World) (q : Plc) (v : Bool) (c : List AV) : Prop :=
  ∃ a e f, w.heap[q.blk]? = some (.cells a e f) ∧ frOk v f a.size ∧ q.base + c.length ≤ q.ext ∧ q.ext ≤ a.size ∧ Ones c ∧ ∀ j u, c[j]? = some u → ∃ x, a[q.base + j]? = some x ∧ VR n m u x

theorem PObj.of {n n' : Nat} {B0 : Nat → Prop} {m : Plcs} {w : World} {k : Nat} {o : AOp} {c : List AV} (hl : LowL n c) (h : ObjR n' B0 m w k (newObj o c)) : PObj n m w (m k) (newVar o) c := by
  have key : ∀ {v : Bool}, CellsR n' B0 m w k v c → PObj n m w (m k) v c := fun h => by
    obtain ⟨_, a, e, f, h1, h2, h3, h4, h5, h6⟩ := h
    refine ⟨a, e, f, h1, h2, h3, h4, h5, fun j u hu => ?_⟩
    obtain ⟨x, g1, g2⟩ := h6 j u hu
    exact ⟨x, g1, low_vr (lowL_iff.1 hl u (List.mem_of_getElem? hu)) g2⟩
  unfold newObj at h
  cases hv : newVar o with
  | true => rw [hv] at h; exact key h
  | false => rw [hv] at h; exact key h
theorem PObj.mono {n n' : Nat} {m m' : Plcs} {w w' : World} {q : Plc} {v : Bool} {c : List AV} (hn : n ≤ n') (hm : ∀ k, k < n → m k = m' k) (hw : w'.heap[q.blk]? = w.heap[q.blk]?) (h : PObj n m w q v c) : PObj n' m' w' q v c := by
  obtain ⟨a, e, f, h1, h2, h3, h4, h5, h6⟩ := h
  exact ⟨a, e, f, hw.trans h1, h2, h3, h4, h5, fun j u hu => let ⟨x, g1, g2⟩ := h6 j u hu; ⟨x, g1, VR_mono hn hm _ _ g2⟩⟩
theorem PObj.obj {n n' : Nat} {B0 : Nat → Prop} {m m' : Plcs} {w : World} {q : Plc} {o : AOp} {c : List AV} {k : Nat} (hq : m' k = q) (hb : ¬ B0 q.blk) (hn : n ≤ n') (hm : ∀ k, k < n → m k = m' k) (h : PObj n m w q (newVar o) c) : ObjR n' B0 m' w k (newObj o c) := by
  have key : CellsR n' B0 m' w k (newVar o) c := by
    obtain ⟨a, e, f, h1, h2, h3, h4, h5, h6⟩ := h
    rw [CellsR, hq]
    exact ⟨hb, a, e, f, h1, h2, h3, h4, h5, fun j u hu => let ⟨x, g1, g2⟩ := h6 j u hu; ⟨x, g1, VR_mono hn hm _ _ g2⟩⟩
  unfold newObj
  cases hv : newVar o with
  | true => rw [hv] at key; exact key
  | false => rw [hv] at key; exact key
theorem newObj_live (o : AOp) (c : List AV) : (newObj o c).live = true := by
  unfold newObj; cases newVar o <;> rfl
end Go.Am
