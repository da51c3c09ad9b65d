/- How the abstract machine's values and memory stand to the model's: the relation, and what each change of memory does to it. -/
import Derived.Test.YtonfcbadaebjnaaAm1
namespace Go.Am
open Go Go.RowKit

structure Plc where
  blk : Nat
  base : Nat
  ext : Nat

abbrev Plcs := Nat → Plc

def Id.blk (m : Plcs) : Id → Nat
  | .base b _ => b
  | .new k => (m k).blk
def Id.beg (m : Plcs) : Id → Nat
  | .base _ s => s / 65536
  | .new k => (m k).base
def Id.ok (n : Nat) : Id → Prop
  | .base _ _ => True
  | .new k => k < n
def adr (m : Plcs) (o : Id) (i : Nat) : Addr := ⟨o.blk m, o.beg m + i, none⟩

/-- A slice's address and capacity. -/
def SlR (m : Plcs) (o : Id) (off len es : Nat) (cap : Option Nat) (a : Addr) (c : Nat) : Prop :=
  len ≤ c ∧ match cap with
  | some c' => c = c' ∧ (0 < c' → a = adr m o off)
  | none => a.block = o.blk m ∧ a.spot = none ∧ o.beg m ≤ a.off ∧ (0 < len → a.off = o.beg m + off) ∧ ∃ k, o = .new k ∧ a.off + c * es ≤ (m k).ext

def Ones (l : List AV) : Prop := ∀ v, v ∈ l → v.one = true

mutual
def VR (n : Nat) (m : Plcs) : AV → Value → Prop
  | .dead, _ => True
  | .bool b, x => x = .bool b
  | .int k i, x => x = .int k i
  | .str s, x => x = .string ⟨s.toArray⟩
  | .ptr none, x => x = .pointer none
  | .ptr (some p), x => p.1.ok n ∧ x = .pointer (some (adr m p.1 p.2))
  | .nils, x => x = .slice none 0 0
  | .slice o off len es cap, x => o.ok n ∧ ∃ a c, x = .slice (some a) len c ∧ SlR m o off len es cap a c
  | .map none, x => x = .map none
  | .map (some o), x => o.ok n ∧ x = .map (some (o.blk m))
  | .func fn a b, x => ∃ a' b', x = .func fn a' b' ∧ VRL n m a a'.toList ∧ VRL n m b b'.toList
  | .nilf, x => x = .nilFunc
  | .iface t v, x => ∃ y, x = .iface t y ∧ VR n m v y
  | .nili, x => x = .nilIface
  | .agg l, x => Ones l ∧ ∃ l', x = .agg l' ∧ VRL n m l l'.toList
  | .tuple l, x => ∃ l', x = .tuple l' ∧ VRL n m l l'.toList
def VRL (n : Nat) (m : Plcs) : List AV → List Value → Prop
  | [], ys => ys = []
  | v :: l, ys => ∃ y r, ys = y :: r ∧ VR n m v y ∧ VRL n m l r
end

theorem Id.ok_mono {n n' : Nat} (h : n ≤ n') {o : Id} (ho : o.ok n) : o.ok n' := by
  cases o with
  | base b s => trivial
  | new k => exact Nat.lt_of_lt_of_le ho h

theorem adr_ext {n : Nat} {m m' : Plcs} (hm : ∀ k, k < n → m k = m' k) {o : Id} (ho : o.ok n) (i : Nat) : adr m o i = adr m' o i := by
  cases o with
  | base b s => rfl
  | new k => simp only [adr, Id.blk, Id.beg, hm k ho]

theorem SlR_ext {n : Nat} {m m' : Plcs} (hm : ∀ k, k < n → m k = m' k) {o : Id} (ho : o.ok n) {off len es : Nat} {cap : Option Nat} {a : Addr} {c : Nat}
    (h : SlR m o off len es cap a c) : SlR m' o off len es cap a c := by
  cases cap with
  | some c' =>
    simp only [SlR] at h ⊢
    rw [adr_ext hm ho] at h
    exact h
  | none =>
    simp only [SlR] at h ⊢
    obtain ⟨h0, h1, h2, h3, h4, k, rfl, h5⟩ := h
    have e := hm k ho
    simp only [Id.blk, Id.beg, e] at h1 h3 h4 h5 ⊢
    exact ⟨h0, h1, h2, h3, h4, k, rfl, h5⟩

mutual
theorem VR_mono {n n' : Nat} {m m' : Plcs} (hn : n ≤ n') (hm : ∀ k, k < n → m k = m' k) : ∀ (v : AV) (x : Value), VR n m v x → VR n' m' v x
  | .dead, _, _ => by simp [VR]
  | .bool _, _, h => by simpa [VR] using h
  | .int _ _, _, h => by simpa [VR] using h
  | .str _, _, h => by simpa [VR] using h
  | .ptr none, _, h => by simpa [VR] using h
  | .ptr (some p), x, h => by
    simp only [VR] at h ⊢
    exact ⟨Id.ok_mono hn h.1, by rw [← adr_ext hm h.1]; exact h.2⟩
  | .nils, _, h => by simpa [VR] using h
  | .slice o off len es cap, x, h => by
    simp only [VR] at h ⊢
    obtain ⟨h1, a, c, h2, h3⟩ := h
    exact ⟨Id.ok_mono hn h1, a, c, h2, SlR_ext hm h1 h3⟩
  | .map none, _, h => by simpa [VR] using h
  | .map (some o), x, h => by
    simp only [VR] at h ⊢
    obtain ⟨h1, rfl⟩ := h
    refine ⟨Id.ok_mono hn h1, ?_⟩
    cases o with
    | base b s => rfl
    | new k => simp only [Id.blk, hm k h1]
  | .func fn a b, x, h => by
    simp only [VR] at h ⊢
    obtain ⟨a', b', h1, h2, h3⟩ := h
    exact ⟨a', b', h1, VRL_mono hn hm a _ h2, VRL_mono hn hm b _ h3⟩
  | .nilf, _, h => by simpa [VR] using h
  | .iface t v, x, h => by
    simp only [VR] at h ⊢
    obtain ⟨y, h1, h2⟩ := h
    exact ⟨y, h1, VR_mono hn hm v y h2⟩
  | .nili, _, h => by simpa [VR] using h
  | .agg l, x, h => by
    simp only [VR] at h ⊢
    obtain ⟨h0, y, h1, h2⟩ := h
    exact ⟨h0, y, h1, VRL_mono hn hm l _ h2⟩
  | .tuple l, x, h => by
    simp only [VR] at h ⊢
    obtain ⟨y, h1, h2⟩ := h
    exact ⟨y, h1, VRL_mono hn hm l _ h2⟩
theorem VRL_mono {n n' : Nat} {m m' : Plcs} (hn : n ≤ n') (hm : ∀ k, k < n → m k = m' k) : ∀ (v : List AV) (x : List Value), VRL n m v x → VRL n' m' v x
  | [], _, h => by simpa [VRL] using h
  | v :: l, x, h => by
    simp only [VRL] at h ⊢
    obtain ⟨y, r, h1, h2, h3⟩ := h
    exact ⟨y, r, h1, VR_mono hn hm v y h2, VRL_mono hn hm l r h3⟩
end

/-- Lists, place by place. -/
theorem VRL_len {n : Nat} {m : Plcs} : ∀ {l : List AV} {ys : List Value}, VRL n m l ys → ys.length = l.length
  | [], _, h => by simp only [VRL] at h; simp [h]
  | _ :: l, _, h => by
    simp only [VRL] at h
    obtain ⟨y, r, rfl, _, h⟩ := h
    simp [VRL_len h]

theorem VRL_get {n : Nat} {m : Plcs} : ∀ {l : List AV} {ys : List Value}, VRL n m l ys → ∀ {i : Nat} {v : AV}, l[i]? = some v → ∃ x, ys[i]? = some x ∧ VR n m v x
  | [], _, _, i, v, h => by simp at h
  | a :: l, _, h, i, v, hv => by
    simp only [VRL] at h
    obtain ⟨y, r, rfl, h1, h2⟩ := h
    cases i with
    | zero => simp at hv; subst hv; exact ⟨y, by simp, h1⟩
    | succ i => simp at hv; obtain ⟨x, hx, h3⟩ := VRL_get h2 hv; exact ⟨x, by simpa using hx, h3⟩

theorem VRL_of_get {n : Nat} {m : Plcs} : ∀ {l : List AV} {ys : List Value}, ys.length = l.length → (∀ (i : Nat) (v : AV) (x : Value), l[i]? = some v → ys[i]? = some x → VR n m v x) → VRL n m l ys
  | [], ys, h, _ => by simp only [VRL]; simpa using h
  | v :: l, [], h, _ => by simp at h
  | v :: l, y :: ys, h, hg => by
    simp only [VRL]
    exact ⟨y, ys, rfl, hg 0 v y (by simp) (by simp), VRL_of_get (by simpa using h) fun i v x h1 h2 => hg (i + 1) v x (by simpa using h1) (by simpa using h2)⟩

theorem VRL_append {n : Nat} {m : Plcs} : ∀ {l l' : List AV} {ys ys' : List Value}, VRL n m l ys → VRL n m l' ys' → VRL n m (l ++ l') (ys ++ ys')
  | [], _, _, _, h, h' => by simp only [VRL] at h; subst h; simpa using h'
  | v :: l, _, _, _, h, h' => by
    simp only [VRL] at h
    obtain ⟨y, r, rfl, h1, h2⟩ := h
    simp only [List.cons_append, VRL]
    exact ⟨y, _, rfl, h1, VRL_append h2 h'⟩

theorem VRL_take {n : Nat} {m : Plcs} : ∀ {l : List AV} {ys : List Value}, VRL n m l ys → ∀ i, VRL n m (l.take i) (ys.take i)
  | [], _, h => by intro i; simp only [VRL] at h; subst h; simp [VRL]
  | v :: l, _, h => by
    intro i
    simp only [VRL] at h
    obtain ⟨y, r, rfl, h1, h2⟩ := h
    cases i with
    | zero => simp [VRL]
    | succ i => simp only [List.take_succ_cons, VRL]; exact ⟨y, _, rfl, h1, VRL_take h2 i⟩

theorem VRL_drop {n : Nat} {m : Plcs} : ∀ {l : List AV} {ys : List Value}, VRL n m l ys → ∀ i, VRL n m (l.drop i) (ys.drop i)
  | [], _, h => by intro i; simp only [VRL] at h; subst h; simp [VRL]
  | v :: l, _, h => by
    intro i
    have h' := h
    simp only [VRL] at h
    obtain ⟨y, r, rfl, h1, h2⟩ := h
    cases i with
    | zero => simpa using h'
    | succ i => simpa using VRL_drop h2 i

theorem VRL_one {n : Nat} {m : Plcs} {v : AV} {x : Value} (h : VR n m v x) : VRL n m [v] [x] := by
  simp only [VRL]; exact ⟨x, [], rfl, h, rfl⟩

/-! ### Memory -/
def frOk (v : Bool) (f : Nat × Nat) (size : Nat) : Prop := f = (0, 0) ∨ v = false ∧ f = (size, size + 1)

/-- The ground: a world, and which of its blocks stay as they are. -/
structure Bw where
  w : World
  kept : Nat → Prop
  lt : ∀ b, kept b → b < w.heap.size

structure Keeps (W0 : Bw) (w : World) : Prop where
  os : w.os = W0.w.os
  tape : w.tape = W0.w.tape
  output : w.output = W0.w.output
  size : W0.w.heap.size ≤ w.heap.size
  block : ∀ k, W0.kept k → w.heap[k]? = W0.w.heap[k]?

theorem Keeps.trans {W0 : Bw} {w w' : World} (h : Keeps W0 w) (h1 : w'.os = w.os) (h2 : w'.tape = w.tape) (h3 : w'.output = w.output) (h4 : w.heap.size ≤ w'.heap.size) (h5 : ∀ k, W0.kept k → w'.heap[k]? = w.heap[k]?) : Keeps W0 w' :=
  ⟨h1.trans h.os, h2.trans h.tape, h3.trans h.output, Nat.le_trans h.size h4, fun k hk => (h5 k hk).trans (h.block k hk)⟩
theorem Keeps.lt {W0 : Bw} {w : World} (h : Keeps W0 w) {b : Nat} (hb : W0.kept b) : b < w.heap.size := Nat.lt_of_lt_of_le (W0.lt b hb) h.size
theorem Keeps.fresh {W0 : Bw} {w : World} (h : Keeps W0 w) : ¬ W0.kept w.heap.size := fun hb => Nat.lt_irrefl _ (h.lt hb)
theorem Keeps.drew {W0 : Bw} {w : World} (h : Keeps W0 w) : Keeps W0 w.drew := ⟨h.os, h.tape, h.output, h.size, h.block⟩
theorem Keeps.alloc {W0 : Bw} {w : World} (h : Keeps W0 w) (o : Obj) : Keeps W0 (w.alloc o) :=
  h.trans rfl rfl rfl (by simp) fun k hk => Below.heap_alloc _ _ _ (h.lt hk)
theorem Keeps.setCell {W0 : Bw} {w : World} (h : Keeps W0 w) {p : Addr} (hp : ¬ W0.kept p.block) (u : Value) : Keeps W0 (w.setCell p u) :=
  h.trans rfl rfl rfl (by simp [World.setCell]) fun k hk => Below.heap_setCell _ _ _ _ (fun e => hp (e ▸ hk))

def CellsR (n : Nat) (B0 : Nat → Prop) (m : Plcs) (w : World) (k : Nat) (v : Bool) (c : List AV) : Prop :=
  ¬ B0 (m k).blk ∧ ∃ a e f, w.heap[(m k).blk]? = some (.cells a e f) ∧ frOk v f a.size ∧ (m k).base + c.length ≤ (m k).ext ∧ (m k).ext ≤ a.size ∧
    Ones c ∧ ∀ j u, c[j]? = some u → ∃ x, a[(m k).base + j]? = some x ∧ VR n m u x

def EntR (n : Nat) (m : Plcs) : List (AV × AV × Nat) → List MapEntry → Prop
  | [], l => l = []
  | (k, v, b) :: r, l => ∃ e l', l = e :: l' ∧ VR n m k e.key ∧ VR n m v e.val ∧ e.born = b ∧ EntR n m r l'

def ObjR (n : Nat) (B0 : Nat → Prop) (m : Plcs) (w : World) (k : Nat) : AObj → Prop
  | .var c => CellsR n B0 m w k true c
  | .arr c => CellsR n B0 m w k false c
  | .map es clock => ¬ B0 (m k).blk ∧ ∃ es', w.heap[(m k).blk]? = some (.map es' clock) ∧ EntR n m es es'.toList
  | .iter o since seen last => ¬ B0 (m k).blk ∧ w.heap[(m k).blk]? = some (.mapIter (o.map (Id.blk m)) since seen.toArray last) ∧ (∀ i, o = some i → i.ok n) ∧ (m k).base = 0
  | .gone => True

def AObj.live : AObj → Bool
  | .gone => false
  | _ => true

structure BaseOk (B : Base) (W0 : Bw) : Prop where
  cells : ∀ b s cs, B b s = some cs → Ones cs ∧ W0.kept b ∧ ∃ c e f, W0.w.heap[b]? = some (.cells c e f) ∧ s / 65536 + cs.length ≤ c.size ∧ ∀ (j : Nat) u, cs[j]? = some u → ∃ x, c[s / 65536 + j]? = some x ∧ VR 0 (fun _ => ⟨0, 0, 0⟩) u x

structure Rel (W0 : Bw) (m : Plcs) (H : Heap) (w : World) : Prop where
  below : Keeps W0 w
  objs : ∀ k o, H[k]? = some o → ObjR H.length W0.kept m w k o
  inj : ∀ k l o o', H[k]? = some o → H[l]? = some o' → o.live = true → o'.live = true → k ≠ l → (m k).blk ≠ (m l).blk

/-- What a step may do to the places: those that are stay. -/
structure Ext (m m' : Plcs) (H H' : Heap) : Prop where
  len : H.length ≤ H'.length
  same : ∀ k, k < H.length → m k = m' k

theorem Ext.refl (m : Plcs) (H : Heap) : Ext m m H H := ⟨Nat.le_refl _, fun _ _ => rfl⟩
theorem Ext.trans {m m' m'' : Plcs} {H H' H'' : Heap} (h : Ext m m' H H') (k : Ext m' m'' H' H'') : Ext m m'' H H'' :=
  ⟨Nat.le_trans h.len k.len, fun i hi => (h.same i hi).trans (k.same i (Nat.lt_of_lt_of_le hi h.len))⟩
theorem Ext.vr {m m' : Plcs} {H H' : Heap} (h : Ext m m' H H') {v : AV} {x : Value} (hv : VR H.length m v x) : VR H'.length m' v x := VR_mono h.len h.same v x hv
theorem EntR_mono {n n' : Nat} {m m' : Plcs} (hn : n ≤ n') (hm : ∀ k, k < n → m k = m' k) : ∀ {es : List (AV × AV × Nat)} {l : List MapEntry}, EntR n m es l → EntR n' m' es l
  | [], _, h => by simpa [EntR] using h
  | (k, v, b) :: r, l, h => by
    simp only [EntR] at h ⊢
    obtain ⟨e, l', h1, h2, h3, h4, h5⟩ := h
    exact ⟨e, l', h1, VR_mono hn hm _ _ h2, VR_mono hn hm _ _ h3, h4, EntR_mono hn hm h5⟩

theorem CellsR_mono {n n' : Nat} {B0 : Nat → Prop} {m m' : Plcs} {w w' : World} {k : Nat} {v : Bool} {c : List AV} (hn : n ≤ n') (hk : k < n) (hm : ∀ k, k < n → m k = m' k) (hw : w'.heap[(m k).blk]? = w.heap[(m k).blk]?)
    (h : CellsR n B0 m w k v c) : CellsR n' B0 m' w' k v c := by
  obtain ⟨h0, a, e, f, h1, h2, h3, h4, h6, h5⟩ := h
  have e' := hm k hk
  rw [CellsR, ← e']
  exact ⟨h0, a, e, f, hw.trans h1, h2, h3, h4, h6, fun j u hu => let ⟨x, hx, hv⟩ := h5 j u hu; ⟨x, hx, VR_mono hn hm _ _ hv⟩⟩

theorem ObjR_mono {n n' : Nat} {B0 : Nat → Prop} {m m' : Plcs} {w w' : World} {k : Nat} {o : AObj} (hn : n ≤ n') (hk : k < n) (hm : ∀ k, k < n → m k = m' k) (hw : o.live = true → w'.heap[(m k).blk]? = w.heap[(m k).blk]?)
    (h : ObjR n B0 m w k o) : ObjR n' B0 m' w' k o := by
  have e' := hm k hk
  cases o with
  | var c => exact CellsR_mono hn hk hm (hw rfl) h
  | arr c => exact CellsR_mono hn hk hm (hw rfl) h
  | map es clock =>
    simp only [ObjR, ← e'] at h ⊢
    obtain ⟨h0, es', h1, h2⟩ := h
    exact ⟨h0, es', (hw rfl).trans h1, EntR_mono hn hm h2⟩
  | iter o since seen last =>
    simp only [ObjR, ← e'] at h ⊢
    obtain ⟨h0, h1, h2, h3⟩ := h
    refine ⟨h0, ?_, fun i hi => Id.ok_mono hn (h2 i hi), h3⟩
    rw [hw rfl, h1]
    cases o with
    | none => rfl
    | some i =>
      cases i with
      | base b s => rfl
      | new l => simp only [Option.map_some, Id.blk, hm l (h2 _ rfl)]
  | gone => trivial

theorem ObjR.lt {n : Nat} {B0 : Nat → Prop} {m : Plcs} {w : World} {k : Nat} {o : AObj} (h : ObjR n B0 m w k o) (hl : o.live = true) : (m k).blk < w.heap.size := by
  have key : ∀ {x : Obj}, w.heap[(m k).blk]? = some x → (m k).blk < w.heap.size := fun h => by
    rcases Nat.lt_or_ge (m k).blk w.heap.size with h' | h'
    · exact h'
    · simp [Array.getElem?_eq_none h'] at h
  cases o with
  | var c => obtain ⟨_, a, e, f, h1, _⟩ := h; exact key h1
  | arr c => obtain ⟨_, a, e, f, h1, _⟩ := h; exact key h1
  | map es clock => obtain ⟨_, es', h1, _⟩ := h; exact key h1
  | iter o since seen last => exact key h.2.1
  | gone => simp [AObj.live] at hl

theorem ObjR.ge {n : Nat} {B0 : Nat → Prop} {m : Plcs} {w : World} {k : Nat} {o : AObj} (h : ObjR n B0 m w k o) (hl : o.live = true) : ¬ B0 (m k).blk := by
  cases o with
  | var c => exact h.1
  | arr c => exact h.1
  | map es clock => exact h.1
  | iter o since seen last => exact h.1
  | gone => simp [AObj.live] at hl

/-- A new place in the list of places. -/
def upd (m : Plcs) (k : Nat) (p : Plc) : Plcs := fun i => if i = k then p else m i
@[simp] theorem upd_same (m : Plcs) (k : Nat) (p : Plc) : upd m k p k = p := by simp [upd]
theorem upd_other (m : Plcs) {k i : Nat} (p : Plc) (h : i ≠ k) : upd m k p i = m i := by simp [upd, h]

theorem Ext.upd (m : Plcs) (H : Heap) (p : Plc) (o : AObj) : Ext m (upd m H.length p) H (H ++ [o]) :=
  ⟨by simp, fun k hk => (upd_other m p (by omega)).symm⟩

/-- A new object. -/
theorem Rel.new {W0 : Bw} {m : Plcs} {H : Heap} {w : World} (R : Rel W0 m H w) (ob : Obj) (p : Plc) (hp : p.blk = w.heap.size) (o : AObj)
    (ho : ObjR (H.length + 1) W0.kept (upd m H.length p) (w.alloc ob) H.length o) : Rel W0 (upd m H.length p) (H ++ [o]) (w.alloc ob) := by
  have hE := Ext.upd m H p o
  refine ⟨R.below.alloc ob, fun k x hk => ?_, fun k l x y hk hl hx hy hne => ?_⟩
  · simp only [List.length_append, List.length_singleton]
    rw [List.getElem?_append] at hk
    split at hk
    · rename_i hlt
      have := R.objs k x hk
      refine ObjR_mono (Nat.le_succ _) hlt hE.same (fun hl => ?_) this
      exact Below.heap_alloc _ _ _ (this.lt hl)
    · rename_i hge
      have hk0 : k - H.length = 0 := by
        rcases Nat.eq_zero_or_pos (k - H.length) with h | h
        · exact h
        · rw [List.getElem?_eq_none (by simp; omega)] at hk; cases hk
      rw [hk0] at hk
      simp at hk
      subst hk
      have : k = H.length := by omega
      subst this
      exact ho
  · rw [List.getElem?_append] at hk hl
    have one : ∀ {i : Nat} {z : AObj}, ¬ i < H.length → ([o] : List AObj)[i - H.length]? = some z → i = H.length := fun hn hz => by
      rcases Nat.eq_zero_or_pos (_ - H.length) with h | h
      · exact Nat.le_antisymm (Nat.le_of_sub_eq_zero h) (Nat.le_of_not_lt hn)
      · rw [List.getElem?_eq_none (by simp; omega)] at hz; cases hz
    split at hk
    · rename_i hlt
      split at hl
      · rename_i hlt'
        rw [upd_other m p (by omega), upd_other m p (by omega)]
        exact R.inj k l x y hk hl hx hy hne
      · have := one ‹_› hl
        subst this
        rw [upd_other m p (by omega), upd_same, hp]
        have := (R.objs k x hk).lt hx
        omega
    · have := one ‹_› hk
      subst this
      split at hl
      · rw [upd_same, hp, upd_other m p (by omega)]
        have := (R.objs l y hl).lt hy
        omega
      · have := one ‹_› hl
        omega

theorem World.heap_alloc_new (w : World) (o : Obj) : (w.alloc o).heap[w.heap.size]? = some o := by
  show (w.heap.push o)[w.heap.size]? = _
  simp

theorem Rel.newCells {W0 : Bw} {m : Plcs} {H : Heap} {w : World} (R : Rel W0 m H w) (c : List AV) (xs : Array Value) (h1 : Ones c) (hc : VRL H.length m c xs.toList) (e : TypeId) (v : Bool) :
    Rel W0 (upd m H.length ⟨w.heap.size, 0, xs.size⟩) (H ++ [if v then .var c else .arr c]) (w.alloc (.cells xs e)) := by
  have hE := Ext.upd m H ⟨w.heap.size, 0, xs.size⟩ (if v then .var c else .arr c)
  have hlen : xs.size = c.length := by simpa using VRL_len hc
  have key : CellsR (H.length + 1) W0.kept (Am.upd m H.length ⟨w.heap.size, 0, xs.size⟩) (w.alloc (.cells xs e)) H.length v c := by
    rw [CellsR, upd_same]
    refine ⟨(by simpa using R.below.fresh), xs, e, (0, 0), World.heap_alloc_new _ _, .inl rfl, by simp only [Nat.zero_add]; omega, Nat.le_refl _, h1, fun j u hu => ?_⟩
    obtain ⟨x, hx, hr⟩ := VRL_get hc hu
    refine ⟨x, by simpa using hx, ?_⟩
    exact VR_mono (Nat.le_succ _) hE.same _ _ hr
  refine R.new _ _ rfl _ ?_
  cases v
  · exact key
  · exact key

/-- A world of the same memory. -/
theorem Rel.drew {W0 : Bw} {m : Plcs} {H : Heap} {w : World} (R : Rel W0 m H w) : Rel W0 m H w.drew :=
  ⟨R.below.drew, fun k o h => ObjR_mono (Nat.le_refl _) (by rcases Nat.lt_or_ge k H.length with h' | h'; exact h'; simp [List.getElem?_eq_none h'] at h) (fun _ _ => rfl) (fun _ => rfl) (R.objs k o h), R.inj⟩

theorem Rel.heap {W0 : Bw} {m : Plcs} {H : Heap} {w w' : World} (R : Rel W0 m H w) (hh : w'.heap = w.heap) (ho : w'.os = w.os) (ht : w'.tape = w.tape) (hu : w'.output = w.output) : Rel W0 m H w' :=
  ⟨R.below.trans ho ht hu (by rw [hh]; exact Nat.le_refl _) (fun _ _ => by rw [hh]), fun k o h => ObjR_mono (Nat.le_refl _) (by rcases Nat.lt_or_ge k H.length with h' | h'; exact h'; simp [List.getElem?_eq_none h'] at h) (fun _ _ => rfl) (fun _ => by rw [hh]) (R.objs k o h), R.inj⟩

/-- The cells of an object in the model. -/
theorem Rel.cells {B : Base} {W0 : Bw} (hB : BaseOk B W0) {m : Plcs} {H : Heap} {w : World} (R : Rel W0 m H w) {o : Id} {c : List AV} (h : cellsOf B H o = some c) :
    Ones c ∧ ∃ a e f, w.heap[o.blk m]? = some (.cells a e f) ∧ o.beg m + c.length ≤ a.size ∧ ∀ j u, c[j]? = some u → ∃ x, a[o.beg m + j]? = some x ∧ VR H.length m u x := by
  cases o with
  | base b s =>
    simp only [cellsOf] at h
    obtain ⟨h0, hb, a, e, f, h1, hlen, h2⟩ := hB.cells b s c h
    refine ⟨h0, a, e, f, (R.below.block b hb).trans h1, by simp only [Id.beg]; omega, fun j u hu => ?_⟩
    obtain ⟨x, hx, hr⟩ := h2 j u hu
    exact ⟨x, hx, VR_mono (Nat.zero_le _) (fun k hk => absurd hk (Nat.not_lt_zero _)) _ _ hr⟩
  | new k =>
    simp only [cellsOf] at h
    split at h
    · rename_i c' hc
      cases h
      obtain ⟨_, a, e, f, h1, _, h3, h4, h6, h5⟩ := R.objs k _ hc
      exact ⟨h6, a, e, f, h1, by simp only [Id.beg]; omega, h5⟩
    · rename_i c' hc
      cases h
      obtain ⟨_, a, e, f, h1, _, h3, h4, h6, h5⟩ := R.objs k _ hc
      exact ⟨h6, a, e, f, h1, by simp only [Id.beg]; omega, h5⟩
    · cases h

theorem Rel.cell {B : Base} {W0 : Bw} (hB : BaseOk B W0) {m : Plcs} {H : Heap} {w : World} (R : Rel W0 m H w) {o : Id} {c : List AV} (h : cellsOf B H o = some c) {i : Nat} {u : AV} (hu : c[i]? = some u) :
    u.one = true ∧ ∃ x, w.cell? (adr m o i) = some x ∧ VR H.length m u x := by
  obtain ⟨h0, a, e, f, h1, _, h3⟩ := R.cells hB h
  obtain ⟨x, hx, hr⟩ := h3 i u hu
  exact ⟨h0 _ (List.mem_of_getElem? hu), x, by simp [World.cell?, adr, h1, hx], hr⟩

theorem adr_add (m : Plcs) (o : Id) (i j : Nat) : (adr m o i).add j = adr m o (i + j) := by
  unfold adr Addr.add
  split
  · rename_i h; subst h; rfl
  · simp [Nat.add_assoc]

theorem cellsAt_iff {B : Base} {H : Heap} {o : Id} {i n : Nat} {l : List AV} : cellsAt B H o i n = some l ↔ ∃ c, cellsOf B H o = some c ∧ i + n ≤ c.length ∧ l = (c.drop i).take n := by
  unfold cellsAt
  split
  · rename_i c hc
    rw [hc]
    constructor
    · intro h; split at h
      · cases h; exact ⟨c, rfl, ‹_›, rfl⟩
      · cases h
    · rintro ⟨c', h1, h2, h3⟩
      cases h1; rw [if_pos h2, h3]
  · rename_i hc
    rw [hc]; simp

/-- Several cells on end. -/
theorem Rel.cellsAt {B : Base} {W0 : Bw} (hB : BaseOk B W0) {m : Plcs} {H : Heap} {w : World} (R : Rel W0 m H w) {o : Id} {i n : Nat} {l : List AV} (h : Am.cellsAt B H o i n = some l) :
    Ones l ∧ ∃ xs : List Value, xs.length = n ∧ VRL H.length m l xs ∧ ∀ j x, xs[j]? = some x → w.cell? ((adr m o i).add j) = some x := by
  obtain ⟨c, hc, hle, rfl⟩ := cellsAt_iff.1 h
  obtain ⟨h0, a, e, f, h1, h2, h3⟩ := R.cells hB hc
  have hget : ∀ j, j < n → ∃ u x, c[i + j]? = some u ∧ a[o.beg m + (i + j)]? = some x ∧ VR H.length m u x := fun j hj => by
    have : i + j < c.length := by omega
    obtain ⟨x, hx, hr⟩ := h3 (i + j) _ (List.getElem?_eq_getElem this)
    exact ⟨_, x, List.getElem?_eq_getElem this, hx, hr⟩
  refine ⟨fun v hv => h0 v (List.mem_of_mem_drop (List.mem_of_mem_take hv)), (a.toList.drop (o.beg m + i)).take n, ?_, ?_, ?_⟩
  · simp; omega
  · refine VRL_of_get (by simp; omega) fun j u x hu hx => ?_
    have hj : j < n := by
      rcases Nat.lt_or_ge j n with h' | h'
      · exact h'
      · rw [List.getElem?_eq_none (by simp; omega)] at hu; cases hu
    obtain ⟨u', x', hu', hx', hr⟩ := hget j hj
    rw [List.getElem?_take_of_lt hj, List.getElem?_drop] at hu hx
    rw [hu'] at hu; cases hu
    rw [Array.getElem?_toList, show o.beg m + i + j = o.beg m + (i + j) by omega, hx'] at hx; cases hx
    exact hr
  · intro j x hx
    have hj : j < n := by
      rcases Nat.lt_or_ge j n with h' | h'
      · exact h'
      · rw [List.getElem?_eq_none (by simp; omega)] at hx; cases hx
    rw [List.getElem?_take_of_lt hj, List.getElem?_drop, Array.getElem?_toList] at hx
    rw [adr_add]
    simp [World.cell?, adr, h1, ← Nat.add_assoc, hx]

/-! ### Writing -/
theorem VR_one {n : Nat} {m : Plcs} {v : AV} {x : Value} (h : VR n m v x) (h1 : v.one = true) : x.oneCell' = true := by
  cases v with
  | dead => simp [AV.one] at h1
  | agg l => simp [AV.one] at h1
  | tuple l => simp [AV.one] at h1
  | ptr p => cases p <;> simp only [VR] at h <;> (first | subst h | (obtain ⟨_, rfl⟩ := h)) <;> rfl
  | slice o off len es cap => simp only [VR] at h; obtain ⟨_, a, c, rfl, _⟩ := h; rfl
  | map p => cases p <;> simp only [VR] at h <;> (first | subst h | (obtain ⟨_, rfl⟩ := h)) <;> rfl
  | func fn a b => simp only [VR] at h; obtain ⟨_, _, rfl, _⟩ := h; rfl
  | iface t v => simp only [VR] at h; obtain ⟨_, rfl, _⟩ := h; rfl
  | _ => simp only [VR] at h; subst h; rfl

theorem VR_cells {n : Nat} {m : Plcs} {v : AV} {x : Value} (h : VR n m v x) {c : List AV} (hc : v.cells? = some c) : Ones c ∧ VRL n m c x.cells.toList := by
  have one : ∀ v : AV, v.one = true → v.cells? = some [v] := by intro v hv; cases v <;> simp_all [AV.one, AV.cells?]
  by_cases h1 : v.one = true
  · rw [one v h1] at hc; cases hc
    refine ⟨fun u hu => by simp at hu; subst hu; exact h1, ?_⟩
    have hx := VR_one h h1
    have : x.cells = #[x] := by cases x <;> simp_all [Value.oneCell', Value.cells]
    rw [this]; exact VRL_one h
  · cases v with
    | agg l =>
      simp only [AV.cells?, Option.some.injEq] at hc; subst hc
      simp only [VR] at h
      obtain ⟨h0, l', rfl, h2⟩ := h
      exact ⟨h0, h2⟩
    | dead => simp [AV.cells?] at hc
    | tuple l => simp [AV.cells?] at hc
    | _ => simp [AV.one] at h1

theorem putAt_cons {c : List AV} {i : Nat} {v : AV} {vs : List AV} (h : i + (vs.length + 1) ≤ c.length) : putAt c i (v :: vs) = putAt (putAt c i [v]) (i + 1) vs := by
  have hl : (c.take i).length = i := by simp; omega
  unfold putAt
  have e1 : (c.take i ++ [v] ++ c.drop (i + [v].length)).take (i + 1) = c.take i ++ [v] := by
    rw [List.take_append, show (c.take i ++ [v]).length = i + 1 by simp [hl]]
    rw [List.take_append, hl, show i + 1 - i = 1 by omega, List.take_of_length_le (l := c.take i) (by omega)]
    simp
  have e2 : (c.take i ++ [v] ++ c.drop (i + [v].length)).drop (i + 1 + vs.length) = c.drop (i + (v :: vs).length) := by
    rw [List.drop_append, show (c.take i ++ [v]).length = i + 1 by simp [hl]]
    rw [List.drop_eq_nil_of_le (by simp [hl]), List.nil_append, List.drop_drop]
    congr 1
    simp; omega
  rw [e1, e2]; simp

theorem putAt_length {c : List AV} {i : Nat} {vs : List AV} (h : i + vs.length ≤ c.length) : (putAt c i vs).length = c.length := by
  simp [putAt]; omega

theorem putAt_one {c : List AV} {i : Nat} {v : AV} (h : i < c.length) : putAt c i [v] = c.set i v := by
  rw [List.set_eq_take_append_cons_drop, if_pos h]; simp [putAt]

theorem putAt_nil (c : List AV) (i : Nat) : putAt c i [] = c := by simp [putAt]

/-- The cells of an object, as they may be written. -/
def AObj.cells? : AObj → Option (List AV)
  | .var c => some c
  | .arr c => some c
  | _ => none
def AObj.withCells (o : AObj) (c : List AV) : AObj :=
  match o with
  | .var _ => .var c
  | .arr _ => .arr c
  | o => o

theorem pokeAt_iff {H : Heap} {o : Id} {i : Nat} {vs : List AV} {H' : Heap} : pokeAt H o i vs = some H' ↔ ∃ k x c, o = .new k ∧ H[k]? = some x ∧ x.cells? = some c ∧ i + vs.length ≤ c.length ∧ H' = H.set k (x.withCells (putAt c i vs)) := by
  cases o with
  | base b s => simp [pokeAt]
  | new k =>
    simp only [pokeAt]
    cases hk : H[k]? with
    | none => simp [hk]
    | some x =>
      cases x with
      | var c =>
        simp only
        constructor
        · intro h; split at h
          · cases h; exact ⟨k, _, c, rfl, hk, rfl, ‹_›, rfl⟩
          · cases h
        · rintro ⟨k', x, c', h1, h2, h3, h4, h5⟩
          cases h1; rw [hk] at h2; cases h2; cases h3
          rw [if_pos h4, h5]; rfl
      | arr c =>
        simp only
        constructor
        · intro h; split at h
          · cases h; exact ⟨k, _, c, rfl, hk, rfl, ‹_›, rfl⟩
          · cases h
        · rintro ⟨k', x, c', h1, h2, h3, h4, h5⟩
          cases h1; rw [hk] at h2; cases h2; cases h3
          rw [if_pos h4, h5]; rfl
      | _ =>
        simp only [reduceCtorEq, false_iff]
        rintro ⟨k', x, c', h1, h2, h3, h4, h5⟩
        cases h1; rw [hk] at h2; cases h2; cases h3

theorem pokeAt_length {H : Heap} {o : Id} {i : Nat} {vs : List AV} {H' : Heap} (h : pokeAt H o i vs = some H') : H'.length = H.length := by
  obtain ⟨k, x, c, _, _, _, _, rfl⟩ := pokeAt_iff.1 h; simp

theorem pokeAt_cons {H : Heap} {o : Id} {i : Nat} {v : AV} {vs : List AV} {H' : Heap} (h : pokeAt H o i (v :: vs) = some H') : ∃ H1, pokeAt H o i [v] = some H1 ∧ pokeAt H1 o (i + 1) vs = some H' := by
  obtain ⟨k, x, c, rfl, h2, h3, h4, rfl⟩ := pokeAt_iff.1 h
  have hk : k < H.length := by
    rcases Nat.lt_or_ge k H.length with h' | h'
    · exact h'
    · simp [List.getElem?_eq_none h'] at h2
  simp only [List.length_cons] at h4
  refine ⟨_, pokeAt_iff.2 ⟨k, x, c, rfl, h2, h3, by simp; omega, rfl⟩, pokeAt_iff.2 ⟨k, x.withCells (putAt c i [v]), putAt c i [v], rfl, ?_, ?_, ?_, ?_⟩⟩
  · rw [List.getElem?_set, if_pos rfl, if_pos hk]
  · cases x <;> first | rfl | cases h3
  · rw [putAt_length (by simp; omega)]; omega
  · rw [List.set_set, putAt_cons (by omega)]
    cases x <;> first | rfl | cases h3

theorem World.heap_setCell_same {w : World} {p : Addr} {c : Array Value} {e : TypeId} {f : Nat × Nat} (h : w.heap[p.block]? = some (.cells c e f)) (hs : p.spot = none) (x : Value) :
    (w.setCell p x).heap[p.block]? = some (.cells (c.setIfInBounds p.off x) e f) := by
  simp only [World.setCell, Array.getElem?_modify, if_pos, h, hs]
  simp

/-- One cell is written. -/
theorem Rel.poke1 {W0 : Bw} {m : Plcs} {H : Heap} {w : World} (R : Rel W0 m H w) {P : Program} {o : Id} {i : Nat} {v : AV} {H' : Heap} (h : pokeAt H o i [v] = some H') {x : Value} (h1 : v.one = true) (hv : VR H.length m v x) :
    (store (adr m o i) x).run P w = .ok () (w.setCell (adr m o i) x) ∧ Rel W0 m H' (w.setCell (adr m o i) x) := by
  obtain ⟨k, ob, c, rfl, h2, h3, h4, rfl⟩ := pokeAt_iff.1 h
  simp only [List.length_singleton] at h4
  have hk : k < H.length := by
    rcases Nat.lt_or_ge k H.length with h' | h'
    · exact h'
    · simp [List.getElem?_eq_none h'] at h2
  have key : ∃ b, CellsR H.length W0.kept m w k b c ∧ (∀ c' w', CellsR H.length W0.kept m w' k b c' → ObjR H.length W0.kept m w' k (ob.withCells c')) ∧ ob.live = true ∧ ∀ c', (ob.withCells c').live = true := by
    have := R.objs k _ h2
    cases ob with
    | var c' => cases h3; exact ⟨true, this, fun _ _ h => h, rfl, fun _ => rfl⟩
    | arr c' => cases h3; exact ⟨false, this, fun _ _ h => h, rfl, fun _ => rfl⟩
    | _ => cases h3
  obtain ⟨b, ⟨hB0, a, e, f, ha, hf, hx1, hx2, hon, hcs⟩, mk, hlive, hlive'⟩ := key
  have hblk : (adr m (.new k) i).block = (m k).blk := rfl
  have hoff : (adr m (.new k) i).off = (m k).base + i := rfl
  have hspot : (adr m (.new k) i).spot = none := rfl
  have hcell : ∃ y, w.cell? (adr m (.new k) i) = some y := by
    have : (m k).base + i < a.size := by omega
    exact ⟨a[(m k).base + i], by simp [World.cell?, hblk, hoff, hspot, ha, this]⟩
  obtain ⟨y, hy⟩ := hcell
  have hfz : w.frozen? (adr m (.new k) i) = false := by
    simp only [World.frozen?, hblk, hoff, ha]
    rcases hf with rfl | ⟨_, rfl⟩
    · simp
    · simp; omega
  refine ⟨by rw [run_store P w _ x .plain (VR_one hv h1), hy]; simp [hfz], ?_⟩
  have hsame := World.heap_setCell_same (w := w) (p := adr m (.new k) i) ha hspot x
  rw [hblk, hoff] at hsame
  have hother : ∀ j, j ≠ (m k).blk → (w.setCell (adr m (.new k) i) x).heap[j]? = w.heap[j]? := fun j hj => Below.heap_setCell _ _ _ _ hj
  refine ⟨R.below.setCell hB0 x, fun l o' hl => ?_, fun l l' o1 o2 hl1 hl2 ho1 ho2 hne => ?_⟩
  · rw [List.length_set]
    rw [List.getElem?_set] at hl
    by_cases e1 : k = l
    · subst e1
      rw [if_pos rfl, if_pos hk] at hl
      cases hl
      refine mk _ _ ⟨hB0, _, e, f, hsame, ?_, by rw [putAt_length (by simpa using h4)]; exact hx1, by simpa using hx2, ?_, ?_⟩
      · simpa using hf
      · rw [putAt_one (by omega)]
        intro u hu
        rcases List.mem_or_eq_of_mem_set hu with hu | rfl
        · exact hon u hu
        · exact h1
      · rw [putAt_one (by omega)]
        intro j u hu
        rw [List.getElem?_set] at hu
        by_cases e2 : i = j
        · subst e2
          rw [if_pos rfl, if_pos (by omega)] at hu
          cases hu
          exact ⟨x, by rw [Array.getElem?_setIfInBounds, if_pos rfl, if_pos (by omega)], hv⟩
        · rw [if_neg e2] at hu
          obtain ⟨z, hz, hr⟩ := hcs j u hu
          exact ⟨z, by rw [Array.getElem?_setIfInBounds_ne (by omega)]; exact hz, hr⟩
    · rw [if_neg e1] at hl
      refine ObjR_mono (Nat.le_refl _) (by rcases Nat.lt_or_ge l H.length with h' | h'; exact h'; simp [List.getElem?_eq_none h'] at hl) (fun _ _ => rfl) (fun hlv => hother _ ?_) (R.objs l o' hl)
      exact fun he => R.inj k l ob o' h2 hl hlive hlv e1 he.symm
  · have back : ∀ {l : Nat} {o' : AObj}, (H.set k (ob.withCells (putAt c i [v])))[l]? = some o' → o'.live = true → ∃ o'', H[l]? = some o'' ∧ o''.live = true := fun {l} {o'} hl hv => by
      rw [List.getElem?_set] at hl
      by_cases e1 : k = l
      · subst e1; exact ⟨ob, h2, hlive⟩
      · rw [if_neg e1] at hl; exact ⟨o', hl, hv⟩
    obtain ⟨q1, hq1, hv1⟩ := back hl1 ho1
    obtain ⟨q2, hq2, hv2⟩ := back hl2 ho2
    exact R.inj l l' q1 q2 hq1 hq2 hv1 hv2 hne

/-- Several cells are written. -/
theorem Rel.pokes {W0 : Bw} {m : Plcs} {P : Program} {o : Id} : ∀ {vs : List AV} {xs : List Value} {i j : Nat} {H H' : Heap} {w : World}, Rel W0 m H w → pokeAt H o (i + j) vs = some H' → Ones vs → VRL H.length m vs xs →
    ∃ w', (storeCells (adr m o i) xs j).run P w = .ok () w' ∧ Rel W0 m H' w'
  | [], xs, i, j, H, H', w, R, h, _, hv => by
    simp only [VRL] at hv; subst hv
    obtain ⟨k, ob, c, rfl, h2, h3, h4, rfl⟩ := pokeAt_iff.1 h
    rw [putAt_nil]
    have : H.set k (ob.withCells c) = H := by
      have : ob.withCells c = ob := by cases ob <;> first | (cases h3; rfl) | rfl
      rw [this]
      refine List.ext_getElem? fun l => ?_
      rw [List.getElem?_set]
      split
      · rename_i e; subst e
        split
        · exact h2.symm
        · rename_i h'; rw [List.getElem?_eq_none (by omega)]
      · rfl
    rw [this]
    exact ⟨w, by simp [storeCells], R⟩
  | v :: vs, xs, i, j, H, H', w, R, h, ho, hv => by
    simp only [VRL] at hv
    obtain ⟨x, r, rfl, hx, hr⟩ := hv
    obtain ⟨H1, h1, h2⟩ := pokeAt_cons h
    obtain ⟨hrun, R1⟩ := R.poke1 (P := P) h1 (ho v (by simp)) hx
    have hl := pokeAt_length h1
    obtain ⟨w', hw', R'⟩ := Rel.pokes (P := P) (xs := r) (i := i) (j := j + 1) R1 (by rw [← Nat.add_assoc]; exact h2) (fun u hu => ho u (by simp [hu])) (by rw [hl]; exact hr)
    refine ⟨w', ?_, R'⟩
    simp only [storeCells, Sem.run_bind, adr_add, hrun, Result.andThen_ok]
    exact hw'

/-- An object is let go. -/
theorem Rel.drop {W0 : Bw} {m : Plcs} {H : Heap} {w : World} (R : Rel W0 m H w) (k : Nat) : Rel W0 m (H.set k .gone) w := by
  have back : ∀ {l : Nat} {o' : AObj}, (H.set k .gone)[l]? = some o' → o'.live = true → l ≠ k ∧ H[l]? = some o' := fun {l} {o'} hl hv => by
    rw [List.getElem?_set] at hl
    by_cases e1 : k = l
    · subst e1
      rw [if_pos rfl] at hl
      split at hl
      · cases hl; simp [AObj.live] at hv
      · cases hl
    · rw [if_neg e1] at hl; exact ⟨fun e => e1 e.symm, hl⟩
  refine ⟨R.below, fun l o' hl => ?_, fun l l' o1 o2 hl1 hl2 ho1 ho2 hne => R.inj l l' o1 o2 (back hl1 ho1).2 (back hl2 ho2).2 ho1 ho2 hne⟩
  have el : (H.set k AObj.gone).length = H.length := List.length_set
  rw [el]
  by_cases hv : o'.live = true
  · exact R.objs l o' (back hl hv).2
  · cases o' <;> first | trivial | simp [AObj.live] at hv

end Go.Am
