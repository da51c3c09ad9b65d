/- The abstract machine: values, memory, operations and code of a simpler machine, in which a Go function's run is a predicate transformer. Definitions alone. -/
import Derived.ProofKit
namespace Go.Am
open Go

inductive Id where
  | base (b s : Nat)
  | new (k : Nat)
  deriving DecidableEq

/-- Values. 'dead': nothing is known of it. Slices: where they begin (object, cell), how many elements, cells an element, the capacity where it is known. -/
inductive AV where
  | dead
  | bool (b : Bool)
  | int (k : IntKind) (n : Int)
  | str (s : List UInt8)
  | ptr (o : Option (Id × Nat))
  | nils
  | slice (o : Id) (off len es : Nat) (cap : Option Nat)
  | map (o : Option Id)
  | func (fn : Fn) (first captured : List AV)
  | nilf
  | iface (t : TypeId) (v : AV)
  | nili
  | agg (l : List AV)
  | tuple (l : List AV)
  deriving Inhabited

/-- Objects. 'var': a variable of its own; 'arr': a row behind slices; 'gone': not to be asked any more. -/
inductive AObj where
  | var (c : List AV)
  | arr (c : List AV)
  | map (es : List (AV × AV × Nat)) (clock : Nat)
  | iter (m : Option Id) (since : Nat) (seen : List Nat) (last : Nat)
  | gone
  deriving Inhabited

abbrev Heap := List AObj
abbrev Base := Nat → Nat → Option (List AV)

def ob {α : Type} (o : Option α) (K : α → Prop) : Prop :=
  match o with
  | some a => K a
  | none => False

@[simp] theorem ob_some {α : Type} (a : α) (K : α → Prop) : ob (some a) K = K a := rfl
@[simp] theorem ob_none {α : Type} (K : α → Prop) : ob (none : Option α) K = False := rfl
theorem ob_iff {α : Type} {o : Option α} {K : α → Prop} : ob o K ↔ ∃ a, o = some a ∧ K a := by cases o <;> simp [ob]
theorem ob_mono {α : Type} {o : Option α} {K K' : α → Prop} (h : ob o K) (hk : ∀ a, K a → K' a) : ob o K' := by
  cases o <;> simp_all [ob]

/-- The kinds that are told apart. -/
inductive Ty where
  | int (k : IntKind)
  | bool
  | str
  | other
  deriving DecidableEq

def pInt (k : IntKind) (v : AV) (K : Int → Prop) : Prop :=
  match v with
  | .int k' n => if k' = k then K n else False
  | _ => False
def pAny (v : AV) (K : Int → Prop) : Prop :=
  match v with
  | .int _ n => K n
  | _ => False
def pBool (v : AV) (K : Bool → Prop) : Prop :=
  match v with
  | .bool b => K b
  | _ => False
def pStr (v : AV) (K : List UInt8 → Prop) : Prop :=
  match v with
  | .str s => K s
  | _ => False
/-- A guard: told, or itself left out (what is left out is the tuple of nothing). -/
def pGuard (v : AV) (K : Bool → Prop) (S : Prop) : Prop :=
  match v with
  | .bool b => K b
  | .tuple [] => S
  | _ => False
@[simp] theorem pGuard_bool (b : Bool) (K : Bool → Prop) (S : Prop) : pGuard (.bool b) K S = K b := rfl
@[simp] theorem pGuard_skip (K : Bool → Prop) (S : Prop) : pGuard (.tuple []) K S = S := rfl
theorem pGuard_iff {v : AV} {K : Bool → Prop} {S : Prop} : pGuard v K S ↔ (∃ b, v = .bool b ∧ K b) ∨ v = .tuple [] ∧ S := by
  cases v <;> simp [pGuard]
  rename_i l
  cases l <;> simp
theorem pGuard_mono {v : AV} {K K' : Bool → Prop} {S S' : Prop} (h : pGuard v K S) (hk : ∀ b, K b → K' b) (hs : S → S') : pGuard v K' S' := by
  rw [pGuard_iff] at h ⊢
  rcases h with ⟨b, rfl, h⟩ | ⟨rfl, h⟩
  · exact .inl ⟨b, rfl, hk b h⟩
  · exact .inr ⟨rfl, hs h⟩
/-- A test: both ways. -/
def bs (b : Bool) (x y : Prop) : Prop :=
  match b with
  | true => x
  | false => y
@[simp] theorem bs_true (x y : Prop) : bs true x y = x := rfl
@[simp] theorem bs_false (x y : Prop) : bs false x y = y := rfl
theorem bs_imp {K : AV → Prop} {b : Bool} (h : bs b (K (.bool true)) (K (.bool false))) : K (.bool b) := by cases b <;> exact h
theorem bs_imp2 {K : AV → Heap → Prop} {b : Bool} {H : Heap} (h : bs b (K (.bool true) H) (K (.bool false) H)) : K (.bool b) H := by cases b <;> exact h
theorem bs_mono {b : Bool} {x y x' y' : Prop} (h : bs b x y) (hx : x → x') (hy : y → y') : bs b x' y' := by cases b; exact hy h; exact hx h
theorem bs_iff {b : Bool} {x y : Prop} : bs b x y ↔ (b = true → x) ∧ (b = false → y) := by cases b <;> simp [bs]
def pLive (v : AV) (K : AV → Prop) : Prop :=
  match v with
  | .dead => False
  | v => K v

def tyK (t : Ty) (v : AV) (K : AV → Prop) : Prop :=
  match t with
  | .int k => pInt k v fun n => K (.int k n)
  | .bool => pBool v fun b => bs b (K (.bool true)) (K (.bool false))
  | .str => pStr v fun s => K (.str s)
  | .other => pLive v K

@[simp] theorem pInt_int (k : IntKind) (n : Int) (K : Int → Prop) : pInt k (.int k n) K = K n := by simp [pInt]
@[simp] theorem pAny_int (k : IntKind) (n : Int) (K : Int → Prop) : pAny (.int k n) K = K n := rfl
@[simp] theorem pBool_bool (b : Bool) (K : Bool → Prop) : pBool (.bool b) K = K b := rfl
@[simp] theorem pStr_str (s : List UInt8) (K : List UInt8 → Prop) : pStr (.str s) K = K s := rfl

theorem pInt_iff {k : IntKind} {v : AV} {K : Int → Prop} : pInt k v K ↔ ∃ n, v = .int k n ∧ K n := by
  cases v <;> simp [pInt]
  constructor
  · rintro ⟨rfl, h⟩; exact ⟨_, ⟨rfl, rfl⟩, h⟩
  · rintro ⟨_, ⟨rfl, rfl⟩, h⟩; exact ⟨rfl, h⟩
theorem pAny_iff {v : AV} {K : Int → Prop} : pAny v K ↔ ∃ k n, v = .int k n ∧ K n := by
  cases v <;> simp [pAny]
  constructor
  · intro h; exact ⟨_, _, ⟨rfl, rfl⟩, h⟩
  · rintro ⟨_, _, ⟨rfl, rfl⟩, h⟩; exact h
theorem pBool_iff {v : AV} {K : Bool → Prop} : pBool v K ↔ ∃ b, v = .bool b ∧ K b := by
  cases v <;> simp [pBool]
theorem pStr_iff {v : AV} {K : List UInt8 → Prop} : pStr v K ↔ ∃ s, v = .str s ∧ K s := by
  cases v <;> simp [pStr]
theorem pLive_iff {v : AV} {K : AV → Prop} : pLive v K ↔ v ≠ .dead ∧ K v := by
  cases v <;> simp [pLive]
theorem tyK_imp {t : Ty} {v : AV} {K : AV → Prop} (h : tyK t v K) : v ≠ .dead ∧ K v := by
  cases t <;> simp only [tyK, pInt_iff, pBool_iff, pStr_iff, pLive_iff] at h
  · obtain ⟨n, rfl, h⟩ := h; exact ⟨by simp, h⟩
  · obtain ⟨n, rfl, h⟩ := h; exact ⟨by simp, bs_imp h⟩
  · obtain ⟨n, rfl, h⟩ := h; exact ⟨by simp, h⟩
  · exact h
theorem tyK_mono {t : Ty} {v : AV} {K K' : AV → Prop} (h : tyK t v K) (hk : ∀ v, K v → K' v) : tyK t v K' := by
  cases t <;> simp only [tyK, pInt_iff, pBool_iff, pStr_iff, pLive_iff] at h ⊢
  · obtain ⟨n, rfl, h⟩ := h; exact ⟨n, rfl, hk _ h⟩
  · obtain ⟨n, rfl, h⟩ := h; exact ⟨n, rfl, bs_mono h (hk _) (hk _)⟩
  · obtain ⟨n, rfl, h⟩ := h; exact ⟨n, rfl, hk _ h⟩
  · exact ⟨h.1, hk _ h.2⟩

/-! ### Operands -/
inductive Opd where
  | tmp (t : Nat)
  | const (v : AV)
  | global (g : Nat)
  | func (f : FuncId)
  deriving Inhabited

/-- The slots: how many, and what is known of each. (The tag tells the kernel soon that two are not the same.) -/
structure Env where
  tag : Bool
  n : Nat
  f : Nat → Option AV

def assoc : List (Nat × AV) → Nat → Option AV
  | [], _ => none
  | (k, v) :: r, i => cond (Nat.beq i k) (some v) (assoc r i)
/-- Slots of which these are known. -/
def ev (n : Nat) (l : List (Nat × AV)) : Env := ⟨true, n, assoc l⟩
def Env.upd (env : Env) (t : Nat) (v : AV) : Env := ⟨false, env.n, fun i => cond (Nat.beq i t) (cond (Nat.blt t env.n) (some v) none) (env.f i)⟩
/-- What a guard tells is known. -/
def Env.know (env : Env) (t : Nat) (v : AV) : Env := ⟨env.tag, env.n, fun i => cond (Nat.beq i t) (some v) (env.f i)⟩
def numb (k : Nat) : List AV → List (Nat × AV)
  | [] => []
  | a :: r => (k, a) :: numb (k + 1) r
def lenAcc : List AV → Nat → Nat
  | [], k => k
  | _ :: r, k => lenAcc r (k + 1)
theorem lenAcc_eq : ∀ (l : List AV) (k : Nat), lenAcc l k = l.length + k
  | [], k => by simp [lenAcc]
  | _ :: r, k => by simp only [lenAcc, lenAcc_eq r, List.length_cons]; omega
def argsEnv (slots : Nat) (args : List AV) : Env := ev (lenAcc args 0 + (slots - lenAcc args 0)) (numb 0 args)

theorem beq_self (i : Nat) : Nat.beq i i = true := Nat.beq_refl i
theorem beq_ne {i j : Nat} (h : i ≠ j) : Nat.beq i j = false := by
  cases hb : Nat.beq i j with
  | false => rfl
  | true => exact absurd (Nat.eq_of_beq_eq_true hb) h
theorem Env.upd_ne {env : Env} {t i : Nat} (h : i ≠ t) (v : AV) : (env.upd t v).f i = env.f i := by simp only [Env.upd, beq_ne h, cond_false]
theorem Env.upd_self (env : Env) (t : Nat) (v : AV) : (env.upd t v).f t = cond (Nat.blt t env.n) (some v) none := by simp only [Env.upd, beq_self, cond_true]
theorem Env.know_eq {env : Env} {t : Nat} {v : AV} (h : env.f t = some v) : env.know t v = env := by
  obtain ⟨g, n, f⟩ := env
  simp only [Env.know, Env.mk.injEq, true_and]
  funext i
  by_cases e : i = t
  · subst e; simp only [beq_self, cond_true]; exact h.symm
  · simp only [beq_ne e, cond_false]
theorem Env.upd_upd (env : Env) (t : Nat) (u v : AV) : (env.upd t u).upd t v = env.upd t v := by
  simp only [Env.upd, Env.mk.injEq, true_and]
  funext i
  by_cases h : i = t
  · subst h; simp only [beq_self, cond_true]
  · simp only [beq_ne h, cond_false]
theorem Env.upd_comm (env : Env) {t d : Nat} (h : d ≠ t) (u v : AV) : (env.upd d u).upd t v = (env.upd t v).upd d u := by
  simp only [Env.upd, Env.mk.injEq, true_and]
  funext i
  by_cases h1 : i = t
  · subst h1; simp only [beq_self, cond_true, beq_ne (Ne.symm h), cond_false]
  · by_cases h2 : i = d
    · subst h2; simp only [beq_self, cond_true, beq_ne h, cond_false]
    · simp only [beq_ne h1, beq_ne h2, cond_false]

def Opd.look (env : Env) : Opd → Option AV
  | .tmp t => env.f t
  | .const v => some v
  | .global g => some (.ptr (some (.base g 0, 0)))
  | .func f => some (.func (.func f) [] [])

def opK (env : Env) (x : Opd) (K : AV → Prop) : Prop := ob (x.look env) K

/-! ### Memory -/
def cellsOf (B : Base) (H : Heap) : Id → Option (List AV)
  | .base b s => B b s
  | .new k => match H[k]? with
    | some (.var c) => some c
    | some (.arr c) => some c
    | _ => none

def peek (B : Base) (H : Heap) (p : AV) : Option AV :=
  match p with
  | .ptr (some (o, i)) => (cellsOf B H o).bind (·[i]?)
  | _ => none

/-- n cells from a place on. -/
def cellsAt (B : Base) (H : Heap) (o : Id) (i n : Nat) : Option (List AV) :=
  match cellsOf B H o with
  | some c => if i + n ≤ c.length then some ((c.drop i).take n) else none
  | none => none

def peekN (B : Base) (H : Heap) (n : Nat) (p : AV) : Option (List AV) :=
  match p with
  | .ptr (some (o, i)) => cellsAt B H o i n
  | _ => none

def putAt (c : List AV) (i : Nat) (vs : List AV) : List AV := c.take i ++ vs ++ c.drop (i + vs.length)

def pokeAt (H : Heap) (o : Id) (i : Nat) (vs : List AV) : Option Heap :=
  match o with
  | .base _ _ => none
  | .new k => match H[k]? with
    | some (.var c) => if i + vs.length ≤ c.length then some (H.set k (.var (putAt c i vs))) else none
    | some (.arr c) => if i + vs.length ≤ c.length then some (H.set k (.arr (putAt c i vs))) else none
    | _ => none

def poke (H : Heap) (p : AV) (vs : List AV) : Option Heap :=
  match p with
  | .ptr (some (o, i)) => pokeAt H o i vs
  | _ => none

/-- A value of one cell. -/
def AV.one : AV → Bool
  | .agg _ | .tuple _ | .dead => false
  | _ => true

/-- The cells of a value that a variable may hold. -/
def AV.cells? : AV → Option (List AV)
  | .agg l => some l
  | .tuple _ | .dead => none
  | v => some [v]

/-- The elements' cells of a slice. -/
def elemsOf (B : Base) (H : Heap) : AV → Option (List AV)
  | .nils => some []
  | .slice o off len es _ => cellsAt B H o off (len * es)
  | _ => none

def lenOf : AV → Option Nat
  | .nils => some 0
  | .slice _ _ len _ _ => some len
  | _ => none

def maxBytes : Nat := 140737488355328
def maxInt : Nat := 9223372036854775807

/-- Append: cells that come, of so many elements ('es' cells and 'bytes' bytes each). -/
def appendTo (B : Base) (H : Heap) (es bytes : Nat) (s : AV) (k : Nat) (new : List AV) : Option (AV × Heap) :=
  if k = 0 then
    match s with
    | .nils => some (.nils, H)
    | .slice o off len es' cap => some (.slice o off len es' cap, H)
    | _ => none
  else match s with
  | .nils => if k * bytes ≤ maxBytes then some (.slice (.new H.length) 0 k es none, H ++ [.arr new]) else none
  | .slice o off len es' (some c) =>
    if es' = es then
      if len + k ≤ c then (pokeAt H o (off + len * es) new).map fun H' => (.slice o off (len + k) es (some c), H')
      else if (len + k) * bytes ≤ maxBytes then (cellsAt B H o off (len * es)).map fun old => (.slice (.new H.length) 0 (len + k) es none, H ++ [.arr (old ++ new)])
      else none
    else none
  | .slice (.new i) off len es' none =>
    if es' = es then
      if (len + k) * bytes ≤ maxBytes then (cellsAt B H (.new i) off (len * es)).map fun old => (.slice (.new H.length) 0 (len + k) es none, H.set i .gone ++ [.arr (old ++ new)])
      else none
    else none
  | _ => none

/-- Parts laid into cells. -/
def layParts (c : List AV) : List (Nat × Nat × AV) → Option (List AV)
  | [] => some c
  | (off, n, v) :: r =>
    match v.cells? with
    | some vs => if vs.length = n ∧ off + n ≤ c.length then layParts (putAt c off vs) r else none
    | none => none

/-! ### Operations -/
inductive NilK where
  | ptr
  | slice
  | map
  | func
  | iface
  deriving DecidableEq

inductive AOp where
  | mov (x : Opd)
  | pick (c a b : Opd)
  | box (n : Nat) (x : Opd)
  | alloc (zero : List AV)
  | build (zero : List AV) (parts : List (Nat × Nat × Opd))
  | buildSlice (es len : Nat) (zero : List AV) (parts : List (Nat × Nat × Opd))
  | ld (ty : Ty) (x : Opd)
  | ldA (n : Nat) (x : Opd)
  | st (n : Nat) (x v : Opd)
  | ibin (op : BinOp) (k : IntKind) (x y : Opd)
  | shf (op : BinOp) (k : IntKind) (x y : Opd)
  | sbin (op : BinOp) (x y : Opd)
  | beq (neg : Bool) (x y : Opd)
  | peq (neg : Bool) (x y : Opd)
  | isNil (k : NilK) (neg : Bool) (x : Opd)
  | aeq (neg : Bool) (size : Nat) (parts : List (Nat × Ty)) (x y : Opd)
  | neg (k : IntKind) (x : Opd)
  | not (x : Opd)
  | compl (k : IntKind) (x : Opd)
  | convI (k k2 : IntKind) (x : Opd)
  | convS (x : Opd)
  | toBytes (x : Opd)
  | toStr (x : Opd)
  | makeFunc (fn : Fn) (first captured : List Opd)
  | makeMap
  | makeSlice (es bytes : Nat) (zero : List AV) (len cap : Opd)
  | sliceS (x : Opd) (lo hi : Option Opd)
  | sliceL (es : Nat) (x : Opd) (lo hi mx : Option Opd)
  | sliceA (n es : Nat) (x : Opd) (lo hi : Option Opd)
  | fieldPtr (off : Nat) (x : Opd)
  | field (off : Nat) (ty : Option Ty) (n : Nat) (x : Opd)
  | indexPtr (es : Nat) (x i : Opd)
  | indexPtrA (n es : Nat) (x i : Opd)
  | indexA (n es : Nat) (ty : Option Ty) (x i : Opd)
  | indexS (x i : Opd)
  | lookup (kt : Ty) (vt : Ty) (zero : AV) (ok : Bool) (m x : Opd)
  | mapSet (kt : Ty) (m x v : Opd)
  | range (m : Opd)
  | extract (ty : Option Ty) (i : Nat) (x : Opd)
  | makeIface (t : TypeId) (x : Opd)
  | assert (t : TypeId) (ok : Bool) (zero : AV) (x : Opd)
  | nilCheck (x : Opd)
  | lenS (x : Opd)
  | lenL (x : Opd)
  | lenA (n : Nat)
  | lenM (x : Opd)
  | append (es bytes : Nat) (s x : Opd)
  | appendS (s x : Opd)
  | copyL (es : Nat) (d s : Opd)
  | minI (k : IntKind) (l : List Opd)
  | maxI (k : IntKind) (l : List Opd)
  | minS (l : List Opd)
  | maxS (l : List Opd)
  | mapDel (kt : Ty) (m x : Opd)
  | convL (x : Opd)
  | clearL (es : Nat) (zero : List AV) (x : Opd)
  | lookupP (vt : Ty) (zero : AV) (ok : Bool) (m x : Opd)
  | mapSetP (m x v : Opd)
  deriving Inhabited

def intCmp (op : BinOp) (a b : Int) : Option Bool :=
  match op with
  | .eql => some (a == b)
  | .neq => some (a != b)
  | .lss => some (decide (a < b))
  | .leq => some (decide (a ≤ b))
  | .gtr => some (decide (a > b))
  | .geq => some (decide (a ≥ b))
  | _ => none

def bitsOp (op : BinOp) (k : IntKind) (a b : Int) : Int :=
  let x := BitVec.ofInt k.bits a
  let y := BitVec.ofInt k.bits b
  match op with
  | .and => k.wrap (x &&& y).toNat
  | .or => k.wrap (x ||| y).toNat
  | .xor => k.wrap (x ^^^ y).toNat
  | _ => k.wrap (x &&& ~~~y).toNat

def ibinK (op : BinOp) (k : IntKind) (a b : Int) (K : AV → Prop) : Prop :=
  match op with
  | .add => K (.int k (k.wrap (a + b)))
  | .sub => K (.int k (k.wrap (a - b)))
  | .mul => K (.int k (k.wrap (a * b)))
  | .quo => if b = 0 then False else K (.int k (k.wrap (a.tdiv b)))
  | .rem => if b = 0 then False else K (.int k (a.tmod b))
  | .and => K (.int k (bitsOp .and k a b))
  | .or => K (.int k (bitsOp .or k a b))
  | .xor => K (.int k (bitsOp .xor k a b))
  | .andNot => K (.int k (bitsOp .andNot k a b))
  | .eql => bs (a == b) (K (.bool true)) (K (.bool false))
  | .neq => bs (a != b) (K (.bool true)) (K (.bool false))
  | .lss => bs (decide (a < b)) (K (.bool true)) (K (.bool false))
  | .leq => bs (decide (a ≤ b)) (K (.bool true)) (K (.bool false))
  | .gtr => bs (decide (a > b)) (K (.bool true)) (K (.bool false))
  | .geq => bs (decide (a ≥ b)) (K (.bool true)) (K (.bool false))
  | _ => False

def shfK (op : BinOp) (k : IntKind) (a b : Int) (K : AV → Prop) : Prop :=
  if b < 0 then False else
  match op with
  | .shl => K (.int k (k.wrap (a * 2 ^ (min b.toNat k.bits))))
  | .shr => K (.int k (a.fdiv (2 ^ (min b.toNat k.bits))))
  | _ => False

/-- Texts: which one is ahead. -/
def sLess (a b : List UInt8) : Bool := Op.bytesLess a b

def sbinK (op : BinOp) (a b : List UInt8) (K : AV → Prop) : Prop :=
  match op with
  | .add => if a.length + b.length ≤ maxInt then K (.str (a ++ b)) else False
  | .eql => bs (a == b) (K (.bool true)) (K (.bool false))
  | .neq => bs (!(a == b)) (K (.bool true)) (K (.bool false))
  | .lss => bs (sLess a b) (K (.bool true)) (K (.bool false))
  | .leq => bs (sLess a b || a == b) (K (.bool true)) (K (.bool false))
  | .gtr => bs (!(sLess a b || a == b)) (K (.bool true)) (K (.bool false))
  | .geq => bs (!(sLess a b)) (K (.bool true)) (K (.bool false))
  | _ => False

/-- Are two cells of a kind the same? -/
def cellEq : Ty → AV → AV → Option Bool
  | .int _, .int k a, .int k' b => if k = k' then some (a == b) else none
  | .bool, .bool a, .bool b => some (a == b)
  | .str, .str a, .str b => some (a == b)
  | _, _, _ => none

/-- Are two rows of cells the same, cell by cell, up to the first that is not? -/
def cellsEq : List (Nat × Ty) → List AV → List AV → Option Bool
  | [], _, _ => some true
  | (i, t) :: r, xs, ys =>
    match xs[i]?, ys[i]? with
    | some x, some y => match cellEq t x y with
      | some true => cellsEq r xs ys
      | some false => some false
      | none => none
    | _, _ => none

def nilOf : NilK → AV → Option Bool
  | .ptr, .ptr o => some o.isNone
  | .slice, .nils => some true
  | .slice, .slice _ _ _ _ _ => some false
  | .map, .map o => some o.isNone
  | .func, .nilf => some true
  | .func, .func _ _ _ => some false
  | .iface, .nili => some true
  | .iface, .iface _ _ => some false
  | _, _ => none

/-- Two places: the same one? Of two objects none may be a row behind slices, or gone. -/
def ptrEq (H : Heap) : AV → AV → Option Bool
  | .ptr none, .ptr b => some b.isNone
  | .ptr (some _), .ptr none => some false
  | .ptr (some (.new k, i)), .ptr (some (.new l, j)) =>
    match H[k]?, H[l]? with
    | some (.var _), some (.var _) => some (k == l && i == j)
    | _, _ => none
  | _, _ => none

def opsK (env : Env) : List Opd → (List AV → Prop) → Prop
  | [], K => K []
  | x :: r, K => opK env x fun v => opsK env r fun vs => K (v :: vs)

def partsK (env : Env) : List (Nat × Nat × Opd) → (List (Nat × Nat × AV) → Prop) → Prop
  | [], K => K []
  | (i, n, x) :: r, K => opK env x fun v => partsK env r fun vs => K ((i, n, v) :: vs)

def optK (env : Env) (d : Int) : Option Opd → (Int → Prop) → Prop
  | none, K => K d
  | some x, K => opK env x fun v => pAny v K

/-- A map's entry of a key. -/
def findAt (kt : Ty) (key : AV) : List (AV × AV × Nat) → Nat → Option (Option (Nat × AV))
  | [], _ => some none
  | (k, v, _) :: r, i =>
    match cellEq kt key k with
    | some true => some (some (i, v))
    | some false => findAt kt key r (i + 1)
    | none => none

/-- A map's entry of a place. -/
def findP (H : Heap) (key : AV) : List (AV × AV × Nat) → Nat → Option (Option (Nat × AV))
  | [], _ => some none
  | (k, v, _) :: r, i =>
    match ptrEq H key k with
    | some true => some (some (i, v))
    | some false => findP H key r (i + 1)
    | none => none

/-- What a look-up tells. -/
def lookVal (r : Option (Nat × AV)) (z : AV) : AV :=
  match r with
  | some (_, u) => u
  | none => z

def entriesOf (H : Heap) : AV → Option (List (AV × AV × Nat))
  | .map none => some []
  | .map (some (.new k)) => match H[k]? with
    | some (.map es _) => some es
    | _ => none
  | _ => none

def extK (ty : Option Ty) (v : AV) (K : AV → Prop) : Prop :=
  match ty with
  | some t => tyK t v K
  | none => K v

def minInts (x : Int) : List Int → Int
  | [] => x
  | y :: r => minInts (if y < x then y else x) r
def maxInts (x : Int) : List Int → Int
  | [] => x
  | y :: r => maxInts (if y > x then y else x) r
def minStrs (x : List UInt8) : List (List UInt8) → List UInt8
  | [] => x
  | y :: r => minStrs (if sLess x y || x == y then x else y) r
def maxStrs (x : List UInt8) : List (List UInt8) → List UInt8
  | [] => x
  | y :: r => maxStrs (if !(sLess x y) then x else y) r

def intsK (env : Env) (k : IntKind) : List Opd → (List Int → Prop) → Prop
  | [], K => K []
  | x :: r, K => opK env x fun v => pInt k v fun n => intsK env k r fun ns => K (n :: ns)
def strsK (env : Env) : List Opd → (List (List UInt8) → Prop) → Prop
  | [], K => K []
  | x :: r, K => opK env x fun v => pStr v fun n => strsK env r fun ns => K (n :: ns)

def bytesOfCells : List AV → Option (List UInt8)
  | [] => some []
  | .int .u8 n :: r => (bytesOfCells r).map (UInt8.ofNat n.toNat :: ·)
  | _ => none
def cellsOfBytes (s : List UInt8) : List AV := s.map fun b => .int .u8 b.toNat

/-- A slice of a slice: nil stays nil. -/
def sliceOf (es : Nat) (x : AV) (lo hi : Int) : Option AV :=
  match x with
  | .nils => if lo = 0 ∧ hi = 0 then some .nils else none
  | .slice o off len es' cap =>
    if es' = es ∧ 0 ≤ lo ∧ lo ≤ hi ∧ hi ≤ len then
      some (match cap with
        | none => .slice o (off + lo.toNat * es) (hi.toNat - lo.toNat) es none
        | some c => .slice o (if c = lo.toNat then off else off + lo.toNat * es) (hi.toNat - lo.toNat) es (some (c - lo.toNat)))
    else none
  | _ => none

/-- With a third index: the capacity is known. -/
def sliceOf3 (es : Nat) (x : AV) (lo hi mx : Int) : Option AV :=
  match x with
  | .nils => if lo = 0 ∧ hi = 0 ∧ mx = 0 then some .nils else none
  | .slice o off len es' _ =>
    if es' = es ∧ 0 ≤ lo ∧ lo ≤ hi ∧ hi ≤ mx ∧ mx ≤ len then
      some (.slice o (if mx = lo then off else off + lo.toNat * es) (hi.toNat - lo.toNat) es (some (mx.toNat - lo.toNat)))
    else none
  | _ => none

def resK (env : Env) (d : Option Nat) (v : AV) (H : Heap) (K : Env → Heap → Prop) : Prop :=
  match d with
  | some t => K (env.upd t v) H
  | none => K env H

/-- An operation: its value, and the memory behind it. -/
def aop (B : Base) (env : Env) (H : Heap) (K : AV → Heap → Prop) : AOp → Prop
  | .mov x => opK env x fun v => K v H
  | .pick c a b => opK env c fun v => pBool v fun t => if t = true then opK env a fun v => K v H else opK env b fun v => K v H
  | .box n x => opK env x fun v => ob v.cells? fun c => if c.length = n then K (.ptr (some (.new H.length, 0))) (H ++ [.var c]) else False
  | .alloc z => K (.ptr (some (.new H.length, 0))) (H ++ [.var z])
  | .build z ps => partsK env ps fun vs => ob (layParts z vs) fun c => K (.agg c) H
  | .buildSlice es len z ps => partsK env ps fun vs => ob (layParts z vs) fun c => K (.slice (.new H.length) 0 len es (some len)) (H ++ [.arr c])
  | .ld t x => opK env x fun p => ob (peek B H p) fun v => tyK t v fun v => K v H
  | .ldA n x => opK env x fun p => ob (peekN B H n p) fun c => K (.agg c) H
  | .st n x v => opK env x fun p => opK env v fun v => ob v.cells? fun c => if c.length = n then ob (poke H p c) fun H' => K .dead H' else False
  | .ibin op k x y => opK env x fun v => pInt k v fun a => opK env y fun u => pInt k u fun b => ibinK op k a b fun r => K r H
  | .shf op k x y => opK env x fun v => pInt k v fun a => opK env y fun u => pAny u fun b => shfK op k a b fun r => K r H
  | .sbin op x y => opK env x fun v => pStr v fun a => opK env y fun u => pStr u fun b => sbinK op a b fun r => K r H
  | .beq n x y => opK env x fun v => pBool v fun a => opK env y fun u => pBool u fun b => bs (if n then !(a == b) else a == b) (K (.bool true) H) (K (.bool false) H)
  | .peq n x y => opK env x fun v => opK env y fun u => ob (ptrEq H v u) fun b => bs (if n then !b else b) (K (.bool true) H) (K (.bool false) H)
  | .isNil k n x => opK env x fun v => ob (nilOf k v) fun b => bs (if n then !b else b) (K (.bool true) H) (K (.bool false) H)
  | .aeq n size ps x y => opK env x fun v => opK env y fun u => match v, u with
    | .agg xs, .agg ys => if xs.length = size ∧ ys.length = size then ob (cellsEq ps xs ys) fun b => bs (if n then !b else b) (K (.bool true) H) (K (.bool false) H) else False
    | _, _ => False
  | .neg k x => opK env x fun v => pInt k v fun a => K (.int k (k.wrap (0 - a))) H
  | .not x => opK env x fun v => pBool v fun a => bs a (K (.bool false) H) (K (.bool true) H)
  | .compl k x => opK env x fun v => pInt k v fun a => K (.int k (bitsOp .xor k (if k.signed then -1 else k.max) a)) H
  | .convI k k2 x => opK env x fun v => pInt k v fun a => K (.int k2 (k2.wrap a)) H
  | .convS x => opK env x fun v => pStr v fun a => K (.str a) H
  | .toBytes x => opK env x fun v => pStr v fun a => K (.slice (.new H.length) 0 a.length 1 none) (H ++ [.arr (cellsOfBytes a)])
  | .toStr x => opK env x fun v => ob (elemsOf B H v) fun c => ob (bytesOfCells c) fun s => if (lenOf v).getD 0 = c.length then K (.str s) H else False
  | .makeFunc fn fs cs => opsK env fs fun a => opsK env cs fun b => K (.func fn a b) H
  | .makeMap => K (.map (some (.new H.length))) (H ++ [.map [] 0])
  | .makeSlice es bytes z l c => opK env l fun v => pAny v fun a => opK env c fun u => pAny u fun b =>
      if 0 ≤ a ∧ a ≤ b ∧ b * bytes ≤ maxBytes ∧ b ≤ maxInt then K (.slice (.new H.length) 0 a.toNat es (some b.toNat)) (H ++ [.arr (List.replicate b.toNat z).flatten]) else False
  | .sliceS x lo hi => opK env x fun v => pStr v fun s => optK env 0 lo fun a => optK env s.length hi fun b =>
      if 0 ≤ a ∧ a ≤ b ∧ b ≤ s.length then K (.str ((s.drop a.toNat).take (b.toNat - a.toNat))) H else False
  | .sliceL es x lo hi mx => opK env x fun v => ob (lenOf v) fun n => optK env 0 lo fun a => optK env n hi fun b => match mx with
    | none => ob (sliceOf es v a b) fun r => K r H
    | some m => opK env m fun u => pAny u fun c => ob (sliceOf3 es v a b c) fun r => K r H
  | .sliceA n es x lo hi => opK env x fun v => optK env 0 lo fun a => optK env n hi fun b => match v with
    | .ptr (some (o, i)) => if 0 ≤ a ∧ a ≤ b ∧ b ≤ n then K (.slice o (if (n : Int) = a then i else i + a.toNat * es) (b.toNat - a.toNat) es (some (n - a.toNat))) H else False
    | _ => False
  | .fieldPtr off x => opK env x fun v => match v with
    | .ptr (some (o, i)) => K (.ptr (some (o, i + off))) H
    | _ => False
  | .field off ty n x => opK env x fun v => match v with
    | .agg c => match ty with
      | some t => ob c[off]? fun v => tyK t v fun v => K v H
      | none => if off + n ≤ c.length then K (.agg ((c.drop off).take n)) H else False
    | _ => False
  | .indexPtr es x i => opK env x fun v => opK env i fun u => pAny u fun a => match v with
    | .slice o off len es' _ => if es' = es ∧ 0 ≤ a ∧ a < len then K (.ptr (some (o, off + a.toNat * es))) H else False
    | _ => False
  | .indexPtrA n es x i => opK env x fun v => opK env i fun u => pAny u fun a => match v with
    | .ptr (some (o, j)) => if 0 ≤ a ∧ a < n then K (.ptr (some (o, j + a.toNat * es))) H else False
    | _ => False
  | .indexA n es ty x i => opK env x fun v => opK env i fun u => pAny u fun a => match v with
    | .agg c => if 0 ≤ a ∧ a < n then match ty with
        | some t => ob c[a.toNat * es]? fun v => tyK t v fun v => K v H
        | none => if a.toNat * es + es ≤ c.length then K (.agg ((c.drop (a.toNat * es)).take es)) H else False
      else False
    | _ => False
  | .indexS x i => opK env x fun v => pStr v fun s => opK env i fun u => pAny u fun a => if 0 ≤ a then ob s[a.toNat]? fun b => K (.int .u8 b.toNat) H else False
  | .lookup kt vt z ok m x => opK env m fun v => ob (entriesOf H v) fun es => opK env x fun k => ob (findAt kt k es 0) fun r => tyK vt (lookVal r z) fun u =>
      K (if ok then .tuple [u, .bool r.isSome] else u) H
  | .mapSet kt m x v => opK env m fun w => opK env x fun k => opK env v fun u => match w with
    | .map (some (.new i)) => match H[i]? with
      | some (.map es clock) => ob (findAt kt k es 0) fun r => match r with
        | some (j, _) => K .dead (H.set i (.map (es.modify j fun e => (k, u, e.2.2)) clock))
        | none => K .dead (H.set i (.map (es ++ [(k, u, clock)]) (clock + 1)))
      | _ => False
    | _ => False
  | .lookupP vt z ok m x => opK env m fun v => ob (entriesOf H v) fun es => opK env x fun k => ob (findP H k es 0) fun r => tyK vt (lookVal r z) fun u =>
      K (if ok then .tuple [u, .bool r.isSome] else u) H
  | .mapSetP m x v => opK env m fun w => opK env x fun k => opK env v fun u => match w with
    | .map (some (.new i)) => match H[i]? with
      | some (.map es clock) => ob (findP H k es 0) fun r => match r with
        | some (j, _) => K .dead (H.set i (.map (es.modify j fun e => (k, u, e.2.2)) clock))
        | none => K .dead (H.set i (.map (es ++ [(k, u, clock)]) (clock + 1)))
      | _ => False
    | _ => False
  | .range m => opK env m fun v => match v with
    | .map none => K (.ptr (some (.new H.length, 0))) (H ++ [.iter none 0 [] 0])
    | .map (some (.new i)) => match H[i]? with
      | some (.map _ clock) => K (.ptr (some (.new H.length, 0))) (H ++ [.iter (some (.new i)) clock [] clock])
      | _ => False
    | _ => False
  | .extract ty i x => opK env x fun v => match v with
    | .tuple l => ob l[i]? fun u => extK ty u fun u => K u H
    | _ => False
  | .makeIface t x => opK env x fun v => pLive v fun v => K (.iface t v) H
  | .assert t ok z x => opK env x fun v => match v with
    | .iface u w => if u = t then K (if ok then .tuple [w, .bool true] else w) H else if ok then K (.tuple [z, .bool false]) H else False
    | .nili => if ok then K (.tuple [z, .bool false]) H else False
    | _ => False
  | .nilCheck x => opK env x fun v => match v with
    | .ptr (some p) => K (.ptr (some p)) H
    | .iface t v => K (.iface t v) H
    | .func (.func f) a b => K (.func (.func f) a b) H
    | _ => False
  | .lenS x => opK env x fun v => pStr v fun s => K (.int .i64 s.length) H
  | .lenL x => opK env x fun v => ob (lenOf v) fun n => K (.int .i64 n) H
  | .lenA n => K (.int .i64 n) H
  | .lenM x => opK env x fun v => ob (entriesOf H v) fun es => K (.int .i64 es.length) H
  | .append es bytes s x => opK env s fun v => opK env x fun u => ob (lenOf u) fun k => ob (elemsOf B H u) fun new => if new.length = k * es then ob (appendTo B H es bytes v k new) fun r => K r.1 r.2 else False
  | .appendS s x => opK env s fun v => opK env x fun u => pStr u fun t => ob (appendTo B H 1 1 v t.length (cellsOfBytes t)) fun r => K r.1 r.2
  | .copyL es d s => opK env d fun v => opK env s fun u => ob (lenOf v) fun n => match u with
    | .str t => if es = 1 then match v with
      | .slice o off _ es' _ => if es' = 1 then ob (pokeAt H o off (cellsOfBytes (t.take (min t.length n)))) fun H' => K (.int .i64 (min t.length n : Nat)) H' else False
      | _ => K (.int .i64 0) H
      else False
    | u => ob (lenOf u) fun m => match v, u with
      | .slice o off _ es' _, .slice o2 off2 _ es2 _ => if es' = es ∧ es2 = es then ob (cellsAt B H o2 off2 (min m n * es)) fun c => ob (pokeAt H o off c) fun H' => K (.int .i64 (min m n : Nat)) H' else False
      | _, _ => K (.int .i64 0) H
  | .minI k l => intsK env k l fun ns => match ns with
    | [] => False
    | x :: r => K (.int k (minInts x r)) H
  | .maxI k l => intsK env k l fun ns => match ns with
    | [] => False
    | x :: r => K (.int k (maxInts x r)) H
  | .minS l => strsK env l fun ns => match ns with
    | [] => False
    | x :: r => K (.str (minStrs x r)) H
  | .maxS l => strsK env l fun ns => match ns with
    | [] => False
    | x :: r => K (.str (maxStrs x r)) H
  | .mapDel kt m x => opK env m fun w => opK env x fun k => match w with
    | .map (some (.new i)) => match H[i]? with
      | some (.map es clock) => ob (findAt kt k es 0) fun r => match r with
        | some (j, _) => K .dead (H.set i (.map (es.eraseIdx j) clock))
        | none => K .dead (H.set i (.map es clock))
      | _ => False
    | _ => False
  | .convL x => opK env x fun v => match v with
    | .slice (.new k) off len es (some c) => if 0 < c then match H[k]? with
      | some (.arr _) => K (.slice (.new k) off len es (some c)) H
      | _ => False
      else False
    | _ => False
  | .clearL es z x => opK env x fun v => match v with
    | .nils => K .dead H
    | .slice o off len es' _ => if es' = es then if len = 0 then K .dead H else ob (pokeAt H o off (List.replicate len z).flatten) fun H' => K .dead H' else False
    | _ => False

/-! ### Code -/
inductive ACallee where
  | fn (f : FuncId)
  | val (x : Opd)
  | meth (rows : List (TypeId × FuncId × Option Nat)) (x : Opd)
  deriving Inhabited

inductive AIns where
  | op (o : AOp)
  | call (c : ACallee) (args : List Opd) (ty : Ty)
  | next (it : Opd)
  | entry (it : Opd)
  | bad (why : Nat)
  deriving Inhabited

structure AStep where
  dst : Option Nat
  guard : Option (Option Nat × Bool)
  ins : AIns
  deriving Inhabited

inductive AC where
  | skip
  | ops (l : List AStep)
  | draw (l : List (AStep × List AStep))
  | seq (a b : AC)
  | keep (l : List Nat) (a : AC)
  | cond (c : Opd) (a b : AC)
  | block (id : Nat) (a : AC)
  | loop (l : List Nat) (a : AC)
  | exit (id : Nat)
  | ret
  | names
  deriving Inhabited

inductive AExit where
  | normal
  | exit (id : Nat)
  | ret

abbrev CallK := FuncId → List AV → Heap → (AV → Heap → Prop) → Prop
abbrev KQ := AExit → Env → Heap → Prop
abbrev LoopK := (Env → Heap → KQ → Prop) → Env → Heap → KQ → Prop

/-- The function and the arguments that a call comes to. -/
def calleeK (B : Base) (env : Env) (H : Heap) (args : List AV) (K : FuncId → List AV → Prop) : ACallee → Prop
  | .fn f => K f args
  | .val x => opK env x fun v => match v with
    | .func (.func f) first captured => K f (first ++ args ++ captured)
    | _ => False
  | .meth rows x => opK env x fun v => match v with
    | .iface t u => match rows.find? (fun r => r.1 == t) with
      | some (_, f, none) => K f (u :: args)
      | some (_, f, some n) => if n = 0 then ob (peek B H u) fun c => K f (c :: args) else ob (peekN B H n u) fun c => K f (.agg c :: args)
      | none => False
    | _ => False

/-- A map's next entry: any that is left; over, when none is left. Nothing has been laid into the map since the loop began. -/
def nextK (env : Env) (H : Heap) (it : Opd) (K : AV → Heap → Prop) : Prop :=
  opK env it fun v => match v with
  | .ptr (some (.new r, 0)) => match H[r]? with
    | some (.iter none _ _ _) => K (.tuple [.bool false]) H
    | some (.iter (some (.new m)) since seen last) => match H[m]? with
      | some (.map es clock) => if (es.all (fun e => decide (e.2.2 < since)) && decide (since ≤ last)) = true then
          ((∀ e, e ∈ es → seen.contains e.2.2 = true) → K (.tuple [.bool false]) H) ∧
          ∀ e, e ∈ es → seen.contains e.2.2 = false → K (.tuple [.bool true, e.1, e.2.1]) (H.set r (.iter (some (.new m)) since (seen ++ [e.2.2]) clock))
        else False
      | _ => False
    | _ => False
  | _ => False

/-- The entry that the last step handed out. -/
def entryK (env : Env) (H : Heap) (it : Opd) (K : AV → Heap → Prop) : Prop :=
  opK env it fun v => match v with
  | .ptr (some (.new r, 0)) => match H[r]? with
    | some (.iter (some (.new m)) _ seen stepped) => match H[m]? with
      | some (.map es clock) => if clock = stepped then ob seen.getLast? fun b => ob (es.find? fun e => e.2.2 == b) fun e => K (.tuple [e.1, e.2.1]) H else False
      | _ => False
    | _ => False
  | _ => False

def insK (B : Base) (call : CallK) (env : Env) (H : Heap) (K : AV → Heap → Prop) : AIns → Prop
  | .op o => aop B env H K o
  | .call c args ty => opsK env args fun vs => calleeK B env H vs (fun f as => call f as H fun v H' => tyK ty v fun v => K v H') c
  | .next x => nextK env H x K
  | .entry x => entryK env H x K
  | .bad _ => False

def stepK (B : Base) (call : CallK) (s : AStep) (env : Env) (H : Heap) (K : Env → Heap → Prop) : Prop :=
  match s.guard with
  | none => insK B call env H (fun v H' => resK env s.dst v H' K) s.ins
  | some (none, _) => False
  | some (some j, want) => ob (env.f j) fun v => pGuard v (fun b =>
      if b = want then insK B call env H (fun v H' => resK env s.dst v H' K) s.ins else resK env s.dst (.tuple []) H K) (resK env s.dst (.tuple []) H K)

def runK (B : Base) (call : CallK) : List AStep → Env → Heap → (Env → Heap → Prop) → Prop
  | [], env, H, K => K env H
  | s :: r, env, H, K => stepK B call s env H fun env' H' => runK B call r env' H' K

/-- A step under a guard that is known. -/
def guardK (B : Base) (call : CallK) (s : AStep) (want : Bool) (env : Env) (H : Heap) (K : Env → Heap → Prop) (b : Bool) : Prop :=
  if b = want then insK B call env H (fun v H' => resK env s.dst v H' K) s.ins else resK env s.dst (.tuple []) H K

/-- A step, behind which its guard is known. -/
def stepG (B : Base) (call : CallK) (s : AStep) (env : Env) (H : Heap) (K : Env → Heap → Prop) : Prop :=
  match s.guard with
  | none => insK B call env H (fun v H' => resK env s.dst v H' K) s.ins
  | some (none, _) => False
  | some (some j, want) => ob (env.f j) fun v => pGuard v (fun b => bs b (guardK B call s want (env.know j (.bool true)) H K true) (guardK B call s want (env.know j (.bool false)) H K false)) (resK (env.know j (.tuple [])) s.dst (.tuple []) H K)

def runG (B : Base) (call : CallK) : List AStep → Env → Heap → (Env → Heap → Prop) → Prop
  | [], env, H, K => K env H
  | s :: r, env, H, K => stepG B call s env H fun env' H' => runG B call r env' H' K

theorem stepG_eq (B : Base) (call : CallK) (s : AStep) (env : Env) (H : Heap) (K : Env → Heap → Prop) : stepG B call s env H K = stepK B call s env H K := by
  unfold stepG stepK
  split
  · rfl
  · rfl
  · rename_i j want hg
    cases he : env.f j with
    | none => rfl
    | some v =>
      simp only [ob_some]
      cases v <;> simp only [pGuard]
      · rename_i b
        cases b
        · simp only [bs_false, Env.know_eq he, guardK]
        · simp only [bs_true, Env.know_eq he, guardK]
      · rename_i l
        cases l with
        | nil => simp only [Env.know_eq he]
        | cons a r => rfl
theorem runG_eq (B : Base) (call : CallK) : ∀ (l : List AStep) (env : Env) (H : Heap) (K : Env → Heap → Prop), runG B call l env H K = runK B call l env H K
  | [], _, _, _ => rfl
  | s :: r, env, H, K => by
    simp only [runG, runK, stepG_eq]
    congr 1
    funext e h
    exact runG_eq B call r e h K

/-- Met again, an observer tells the same. -/
def sameK (B : Base) (call : CallK) (s : AStep) (env : Env) (H : Heap) : Prop :=
  match s.dst with
  | none => stepK B call s env H fun _ _ => True
  | some d => stepK B call s env H fun env' _ => ob (env.f d) fun v => ob (env'.f d) fun v' => v' = v

def samesK (B : Base) (call : CallK) : List AStep → Env → Heap → Prop → Prop
  | [], _, _, p => p
  | s :: r, env, H, p => sameK B call s env H ∧ samesK B call r env H p

/-- A region that draws its order: run in one order; behind an effect the observers that might have come later tell the same. -/
def drawK (B : Base) (call : CallK) : List (AStep × List AStep) → Env → Heap → (Env → Heap → Prop) → Prop
  | [], env, H, K => K env H
  | (s, rs) :: r, env, H, K => stepK B call s env H fun env' H' => samesK B call rs env' H' (drawK B call r env' H' K)

/-- Slots that are forgotten: all but those listed. -/
def vals : List Nat → Env → List (Nat × AV)
  | [], _ => []
  | i :: r, env => (i, (env.f i).getD .dead) :: vals r env
theorem vals_eq : ∀ (l : List Nat) (env : Env), vals l env = l.map fun i => (i, (env.f i).getD .dead)
  | [], _ => rfl
  | i :: r, env => by simp only [vals, List.map_cons, vals_eq r env]
def keepEnv (l : List Nat) (env : Env) : Env := ev env.n (vals l env)

def AExit.thenK (next : Env → Heap → Prop) (Q : KQ) : KQ
  | .normal, e, H => next e H
  | x, e, H => Q x e H
def AExit.blockK (id : Nat) (Q : KQ) : KQ
  | .exit i, e, H => if i = id then Q .normal e H else Q (.exit i) e H
  | x, e, H => Q x e H

/-! ### What a step reads -/
def optL : Option Opd → List Opd
  | none => []
  | some x => [x]

def AOp.reads : AOp → List Opd
  | .mov x => [x]
  | .pick c a b => [c, a, b]
  | .box _ x => [x]
  | .alloc _ => []
  | .build _ ps => ps.map (·.2.2)
  | .buildSlice _ _ _ ps => ps.map (·.2.2)
  | .ld _ x => [x]
  | .ldA _ x => [x]
  | .st _ x v => [x, v]
  | .ibin _ _ x y => [x, y]
  | .shf _ _ x y => [x, y]
  | .sbin _ x y => [x, y]
  | .beq _ x y => [x, y]
  | .peq _ x y => [x, y]
  | .isNil _ _ x => [x]
  | .aeq _ _ _ x y => [x, y]
  | .neg _ x => [x]
  | .not x => [x]
  | .compl _ x => [x]
  | .convI _ _ x => [x]
  | .convS x => [x]
  | .toBytes x => [x]
  | .toStr x => [x]
  | .makeFunc _ fs cs => fs ++ cs
  | .makeMap => []
  | .makeSlice _ _ _ l c => [l, c]
  | .sliceS x lo hi => x :: (optL lo ++ optL hi)
  | .sliceL _ x lo hi mx => x :: (optL lo ++ (optL hi ++ optL mx))
  | .sliceA _ _ x lo hi => x :: (optL lo ++ optL hi)
  | .fieldPtr _ x => [x]
  | .field _ _ _ x => [x]
  | .indexPtr _ x i => [x, i]
  | .indexPtrA _ _ x i => [x, i]
  | .indexA _ _ _ x i => [x, i]
  | .indexS x i => [x, i]
  | .lookup _ _ _ _ m x => [m, x]
  | .mapSet _ m x v => [m, x, v]
  | .range m => [m]
  | .extract _ _ x => [x]
  | .makeIface _ x => [x]
  | .assert _ _ _ x => [x]
  | .nilCheck x => [x]
  | .lenS x => [x]
  | .lenL x => [x]
  | .lenA _ => []
  | .lenM x => [x]
  | .append _ _ s x => [s, x]
  | .appendS s x => [s, x]
  | .copyL _ d s => [d, s]
  | .minI _ l => l
  | .maxI _ l => l
  | .minS l => l
  | .maxS l => l
  | .mapDel _ m x => [m, x]
  | .convL x => [x]
  | .clearL _ _ x => [x]
  | .lookupP _ _ _ m x => [m, x]
  | .mapSetP m x v => [m, x, v]

/-- Operations that leave memory as it is. -/
def AOp.looksOnly : AOp → Bool
  | .box .. | .alloc _ | .buildSlice .. | .st .. | .toBytes _ | .makeMap | .makeSlice .. | .mapSet .. | .range _ | .append .. | .appendS .. | .copyL .. | .mapDel .. | .convL _ | .clearL .. | .mapSetP .. => false
  | _ => true

def ACallee.reads : ACallee → List Opd
  | .fn _ => []
  | .val x => [x]
  | .meth _ x => [x]

def AIns.reads : AIns → List Opd
  | .op o => o.reads
  | .call c as _ => as ++ c.reads
  | .next x => [x]
  | .entry x => [x]
  | .bad _ => []

def AIns.looksOnly : AIns → Bool
  | .op o => o.looksOnly
  | _ => false

def Opd.isSlot (d : Nat) : Opd → Bool
  | .tmp t => t == d
  | _ => false

/-- Does a step look at a slot? -/
def AStep.looksAt (s : AStep) (d : Nat) : Bool :=
  s.ins.reads.any (·.isSlot d) || (match s.guard with
    | some (some j, _) => j == d
    | _ => false)

/-- A step that knows nothing of a slot. -/
def AStep.free (s : AStep) (d : Option Nat) : Bool :=
  match d with
  | some d => !s.looksAt d
  | none => true
def AStep.apart (s t : AStep) : Bool := s.free t.dst && (match s.dst, t.dst with
  | some d, some e => d != e
  | _, _ => true)

end Go.Am
