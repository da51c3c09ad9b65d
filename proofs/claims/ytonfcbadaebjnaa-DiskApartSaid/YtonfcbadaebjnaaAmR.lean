/- Memory made tidy: objects that nobody needs are dropped, the others numbered anew; that the relation stands. -/
import Derived.Test.YtonfcbadaebjnaaAm4
namespace Go.Am
open Go Go.RowKit

def Id.ren (f : Nat → Nat) : Id → Id
  | .base b s => .base b s
  | .new k => .new (f k)

mutual
/-- A value, as it is numbered anew, beside what it was: 'f' tells the old number of each new one; all new ones are below n. -/
def RV (f : Nat → Nat) (n : Nat) : AV → AV → Prop
  | .dead, _ => True
  | .bool b, y => y = .bool b
  | .int k i, y => y = .int k i
  | .str s, y => y = .str s
  | .ptr none, y => y = .ptr none
  | .ptr (some p), y => p.1.ok n ∧ y = .ptr (some (p.1.ren f, p.2))
  | .nils, y => y = .nils
  | .slice o off len es cap, y => o.ok n ∧ y = .slice (o.ren f) off len es cap
  | .map none, y => y = .map none
  | .map (some o), y => o.ok n ∧ y = .map (some (o.ren f))
  | .func fn a b, y => match y with
    | .func fn' a' b' => fn' = fn ∧ RVL f n a a' ∧ RVL f n b b'
    | _ => False
  | .nilf, y => y = .nilf
  | .iface t v, y => match y with
    | .iface t' v' => t' = t ∧ RV f n v v'
    | _ => False
  | .nili, y => y = .nili
  | .agg l, y => match y with
    | .agg l' => Ones l ∧ RVL f n l l'
    | _ => False
  | .tuple l, y => match y with
    | .tuple l' => RVL f n l l'
    | _ => False
def RVL (f : Nat → Nat) (n : Nat) : List AV → List AV → Prop
  | [], ys => ys = []
  | v :: l, ys => match ys with
    | y :: r => RV f n v y ∧ RVL f n l r
    | [] => False
end

theorem Id.ren_blk (m : Plcs) (f : Nat → Nat) (o : Id) : (o.ren f).blk m = o.blk fun k => m (f k) := by cases o <;> rfl
theorem adr_ren (m : Plcs) (f : Nat → Nat) (o : Id) (i : Nat) : adr m (o.ren f) i = adr (fun k => m (f k)) o i := by cases o <;> rfl
theorem SlR_ren {m : Plcs} {f : Nat → Nat} {o : Id} {off len es : Nat} {cap : Option Nat} {a : Addr} {c : Nat} (h : SlR m (o.ren f) off len es cap a c) : SlR (fun k => m (f k)) o off len es cap a c := by
  cases o with
  | base b s =>
    cases cap with
    | some c' => exact h
    | none => obtain ⟨h0, h1, h2, h3, h4, k, h5, h6⟩ := h; cases h5
  | new j =>
    cases cap with
    | some c' => exact h
    | none =>
      obtain ⟨h0, h1, h2, h3, h4, k, h5, h6⟩ := h
      cases h5
      exact ⟨h0, h1, h2, h3, h4, j, rfl, h6⟩

mutual
theorem RV_ok {f : Nat → Nat} {n n2 : Nat} {m : Plcs} : ∀ (v2 v : AV) (x : Value), RV f n2 v2 v → VR n m v x → VR n2 (fun k => m (f k)) v2 x
  | .dead, _, _, _, _ => by simp [VR]
  | .bool b, _, _, h, hv => by simp only [RV] at h; subst h; simpa [VR] using hv
  | .int k i, _, _, h, hv => by simp only [RV] at h; subst h; simpa [VR] using hv
  | .str s, _, _, h, hv => by simp only [RV] at h; subst h; simpa [VR] using hv
  | .ptr none, _, _, h, hv => by simp only [RV] at h; subst h; simpa [VR] using hv
  | .ptr (some p), _, _, h, hv => by
    simp only [RV] at h
    obtain ⟨h1, rfl⟩ := h
    simp only [VR] at hv ⊢
    exact ⟨h1, by rw [← adr_ren]; exact hv.2⟩
  | .nils, _, _, h, hv => by simp only [RV] at h; subst h; simpa [VR] using hv
  | .slice o off len es cap, _, _, h, hv => by
    simp only [RV] at h
    obtain ⟨h1, rfl⟩ := h
    simp only [VR] at hv ⊢
    obtain ⟨_, a, c, h2, h3⟩ := hv
    exact ⟨h1, a, c, h2, SlR_ren h3⟩
  | .map none, _, _, h, hv => by simp only [RV] at h; subst h; simpa [VR] using hv
  | .map (some o), _, _, h, hv => by
    simp only [RV] at h
    obtain ⟨h1, rfl⟩ := h
    simp only [VR] at hv ⊢
    exact ⟨h1, by rw [← Id.ren_blk]; exact hv.2⟩
  | .func fn a b, y, _, h, hv => by
    cases y <;> simp only [RV] at h
    obtain ⟨rfl, h1, h2⟩ := h
    simp only [VR] at hv ⊢
    obtain ⟨a', b', h3, h4, h5⟩ := hv
    exact ⟨a', b', h3, RVL_ok a _ _ h1 h4, RVL_ok b _ _ h2 h5⟩
  | .nilf, _, _, h, hv => by simp only [RV] at h; subst h; simpa [VR] using hv
  | .iface t v, y, _, h, hv => by
    cases y <;> simp only [RV] at h
    obtain ⟨rfl, h1⟩ := h
    simp only [VR] at hv ⊢
    obtain ⟨z, h2, h3⟩ := hv
    exact ⟨z, h2, RV_ok v _ _ h1 h3⟩
  | .nili, _, _, h, hv => by simp only [RV] at h; subst h; simpa [VR] using hv
  | .agg l, y, _, h, hv => by
    cases y <;> simp only [RV] at h
    obtain ⟨h0, h1⟩ := h
    simp only [VR] at hv ⊢
    obtain ⟨_, z, h2, h3⟩ := hv
    exact ⟨h0, z, h2, RVL_ok l _ _ h1 h3⟩
  | .tuple l, y, _, h, hv => by
    cases y <;> simp only [RV] at h
    simp only [VR] at hv ⊢
    obtain ⟨z, h2, h3⟩ := hv
    exact ⟨z, h2, RVL_ok l _ _ h h3⟩
theorem RVL_ok {f : Nat → Nat} {n n2 : Nat} {m : Plcs} : ∀ (v2 v : List AV) (x : List Value), RVL f n2 v2 v → VRL n m v x → VRL n2 (fun k => m (f k)) v2 x
  | [], _, _, h, hv => by simp only [RVL] at h; subst h; simpa [VRL] using hv
  | v2 :: l2, [], _, h, _ => by simp only [RVL] at h
  | v2 :: l2, v :: l, _, h, hv => by
    simp only [RVL] at h
    simp only [VRL] at hv ⊢
    obtain ⟨y, r, h1, h2, h3⟩ := hv
    exact ⟨y, r, h1, RV_ok v2 v y h.1 h2, RVL_ok l2 l r h.2 h3⟩
end

/-- All numbers in it are below n. -/
def Low (n : Nat) (v : AV) : Prop := RV (fun k => k) n v v
def LowL (n : Nat) (l : List AV) : Prop := RVL (fun k => k) n l l

theorem Id.ren_id (o : Id) : o.ren (fun k => k) = o := by cases o <;> rfl
theorem Id.ren_low {f : Nat → Nat} {n : Nat} (hf : ∀ k, k < n → f k = k) {o : Id} (h : o.ok n) : o.ren f = o := by
  cases o with
  | base b s => rfl
  | new k => simp only [Id.ren, hf k h]

mutual
theorem low_of_VR {n : Nat} {m : Plcs} : ∀ (v : AV) (x : Value), VR n m v x → Low n v
  | .dead, _, _ => by simp [Low, RV]
  | .bool b, _, _ => by simp [Low, RV]
  | .int k i, _, _ => by simp [Low, RV]
  | .str s, _, _ => by simp [Low, RV]
  | .ptr none, _, _ => by simp [Low, RV]
  | .ptr (some p), _, h => by simp only [VR] at h; simp [Low, RV, Id.ren_id, h.1]
  | .nils, _, _ => by simp [Low, RV]
  | .slice o off len es cap, _, h => by simp only [VR] at h; simp [Low, RV, Id.ren_id, h.1]
  | .map none, _, _ => by simp [Low, RV]
  | .map (some o), _, h => by simp only [VR] at h; simp [Low, RV, Id.ren_id, h.1]
  | .func fn a b, _, h => by
    simp only [VR] at h
    obtain ⟨a', b', h1, h2, h3⟩ := h
    simp only [Low, RV, true_and]
    exact ⟨lowL_of_VRL a _ h2, lowL_of_VRL b _ h3⟩
  | .nilf, _, _ => by simp [Low, RV]
  | .iface t v, _, h => by
    simp only [VR] at h
    obtain ⟨y, h1, h2⟩ := h
    simp only [Low, RV, true_and]
    exact low_of_VR v _ h2
  | .nili, _, _ => by simp [Low, RV]
  | .agg l, _, h => by
    simp only [VR] at h
    obtain ⟨h0, y, h1, h2⟩ := h
    simp only [Low, RV]
    exact ⟨h0, lowL_of_VRL l _ h2⟩
  | .tuple l, _, h => by
    simp only [VR] at h
    obtain ⟨y, h1, h2⟩ := h
    simp only [Low, RV]
    exact lowL_of_VRL l _ h2
theorem lowL_of_VRL {n : Nat} {m : Plcs} : ∀ (v : List AV) (x : List Value), VRL n m v x → LowL n v
  | [], _, _ => by simp [LowL, RVL]
  | v :: l, x, h => by
    simp only [VRL] at h
    obtain ⟨y, r, h1, h2, h3⟩ := h
    simp only [LowL, RVL]
    exact ⟨low_of_VR v _ h2, lowL_of_VRL l _ h3⟩
end

mutual
/-- What is low stays what it is under a numbering that keeps the low ones. -/
theorem Low.rv {f : Nat → Nat} {n n2 : Nat} (hf : ∀ k, k < n → f k = k) (hn : n ≤ n2) : ∀ (v : AV), Low n v → RV f n2 v v
  | .dead, _ => by simp [RV]
  | .bool b, _ => by simp [RV]
  | .int k i, _ => by simp [RV]
  | .str s, _ => by simp [RV]
  | .ptr none, _ => by simp [RV]
  | .ptr (some p), h => by simp only [Low, RV] at h; simp only [RV, Id.ren_low hf h.1]; exact ⟨Id.ok_mono hn h.1, trivial⟩
  | .nils, _ => by simp [RV]
  | .slice o off len es cap, h => by simp only [Low, RV] at h; simp only [RV, Id.ren_low hf h.1]; exact ⟨Id.ok_mono hn h.1, trivial⟩
  | .map none, _ => by simp [RV]
  | .map (some o), h => by simp only [Low, RV] at h; simp only [RV, Id.ren_low hf h.1]; exact ⟨Id.ok_mono hn h.1, trivial⟩
  | .func fn a b, h => by
    simp only [Low, RV] at h
    simp only [RV, true_and]
    exact ⟨LowL.rv hf hn a h.2.1, LowL.rv hf hn b h.2.2⟩
  | .nilf, _ => by simp [RV]
  | .iface t v, h => by
    simp only [Low, RV] at h
    simp only [RV, true_and]
    exact Low.rv hf hn v h.2
  | .nili, _ => by simp [RV]
  | .agg l, h => by
    simp only [Low, RV] at h
    simp only [RV]
    exact ⟨h.1, LowL.rv hf hn l h.2⟩
  | .tuple l, h => by
    simp only [Low, RV] at h
    simp only [RV]
    exact LowL.rv hf hn l h
theorem LowL.rv {f : Nat → Nat} {n n2 : Nat} (hf : ∀ k, k < n → f k = k) (hn : n ≤ n2) : ∀ (v : List AV), LowL n v → RVL f n2 v v
  | [], _ => by simp [RVL]
  | v :: l, h => by
    simp only [LowL, RVL] at h
    simp only [RVL]
    exact ⟨Low.rv hf hn v h.1, LowL.rv hf hn l h.2⟩
end

theorem Low.mono {n n2 : Nat} (hn : n ≤ n2) {v : AV} (h : Low n v) : Low n2 v := Low.rv (fun _ _ => rfl) hn v h
theorem LowL.mono {n n2 : Nat} (hn : n ≤ n2) {v : List AV} (h : LowL n v) : LowL n2 v := LowL.rv (fun _ _ => rfl) hn v h

/-- Entries of a map. -/
def RE (f : Nat → Nat) (n : Nat) : List (AV × AV × Nat) → List (AV × AV × Nat) → Prop
  | [], l => l = []
  | (k, v, b) :: r, l => match l with
    | (k', v', b') :: r' => RV f n k k' ∧ RV f n v v' ∧ b' = b ∧ RE f n r r'
    | [] => False

theorem RE_ok {f : Nat → Nat} {n n2 : Nat} {m : Plcs} : ∀ {l2 l : List (AV × AV × Nat)} {es : List MapEntry}, RE f n2 l2 l → EntR n m l es → EntR n2 (fun k => m (f k)) l2 es
  | [], _, _, h, he => by simp only [RE] at h; subst h; simpa [EntR] using he
  | (k, v, b) :: r, [], _, h, _ => by simp only [RE] at h
  | (k, v, b) :: r, (k', v', b') :: r', es, h, he => by
    simp only [RE] at h
    obtain ⟨h1, h2, rfl, h3⟩ := h
    simp only [EntR] at he ⊢
    obtain ⟨e, l', g1, g2, g3, g4, g5⟩ := he
    exact ⟨e, l', g1, RV_ok _ _ _ h1 g2, RV_ok _ _ _ h2 g3, g4, RE_ok h3 g5⟩

/-- An object, as it is numbered anew, beside what it was. -/
def RO (f : Nat → Nat) (n : Nat) : AObj → AObj → Prop
  | .var c, y => match y with
    | .var c' => Ones c ∧ RVL f n c c'
    | _ => False
  | .arr c, y => match y with
    | .arr c' => Ones c ∧ RVL f n c c'
    | _ => False
  | .map es clock, y => match y with
    | .map es' clock' => clock' = clock ∧ RE f n es es'
    | _ => False
  | .iter o since seen last, y => y = .iter (o.map (Id.ren f)) since seen last ∧ ∀ i, o = some i → i.ok n
  | .gone, _ => True

theorem RVL_get {f : Nat → Nat} {n : Nat} : ∀ {l l' : List AV}, RVL f n l l' → ∀ {i : Nat} {u : AV}, l[i]? = some u → ∃ u', l'[i]? = some u' ∧ RV f n u u'
  | [], _, _, i, u, hu => by simp at hu
  | v :: l, [], h, _, _, _ => by simp only [RVL] at h
  | v :: l, v' :: l', h, i, u, hu => by
    simp only [RVL] at h
    cases i with
    | zero => simp at hu; subst hu; exact ⟨v', by simp, h.1⟩
    | succ i => simp at hu; obtain ⟨u', h1, h2⟩ := RVL_get h.2 hu; exact ⟨u', by simpa using h1, h2⟩
theorem RVL_len {f : Nat → Nat} {n : Nat} : ∀ {l l' : List AV}, RVL f n l l' → l'.length = l.length
  | [], _, h => by simp only [RVL] at h; simp [h]
  | v :: l, [], h => by simp only [RVL] at h
  | v :: l, v' :: l', h => by simp only [RVL] at h; simp [RVL_len h.2]

theorem CellsR_ren {f : Nat → Nat} {n n2 : Nat} {B0 : Nat → Prop} {m : Plcs} {w : World} {j : Nat} {b : Bool} {c c' : List AV} (h1 : Ones c) (h2 : RVL f n2 c c') (h : CellsR n B0 m w (f j) b c') : CellsR n2 B0 (fun k => m (f k)) w j b c := by
  obtain ⟨g0, a, e, fr, g1, g2, g3, g4, g5, g6⟩ := h
  refine ⟨g0, a, e, fr, g1, g2, ?_, g4, h1, fun i u hu => ?_⟩
  · rw [RVL_len h2] at g3; exact g3
  · obtain ⟨u', h3, h4⟩ := RVL_get h2 hu
    obtain ⟨x, h5, h6⟩ := g6 i u' h3
    exact ⟨x, h5, RV_ok _ _ _ h4 h6⟩

theorem RO_ok {f : Nat → Nat} {n n2 : Nat} {B0 : Nat → Prop} {m : Plcs} {w : World} {j : Nat} {o2 o : AObj} (h : RO f n2 o2 o) (ho : ObjR n B0 m w (f j) o) : ObjR n2 B0 (fun k => m (f k)) w j o2 := by
  cases o2 with
  | var c => cases o <;> simp only [RO] at h; exact CellsR_ren h.1 h.2 ho
  | arr c => cases o <;> simp only [RO] at h; exact CellsR_ren h.1 h.2 ho
  | map es clock =>
    cases o <;> simp only [RO] at h
    obtain ⟨rfl, h⟩ := h
    obtain ⟨g0, es', g1, g2⟩ := ho
    exact ⟨g0, es', g1, RE_ok h g2⟩
  | iter p since seen last =>
    simp only [RO] at h
    obtain ⟨rfl, h⟩ := h
    obtain ⟨g0, g1, g2, g3⟩ := ho
    refine ⟨g0, ?_, h, g3⟩
    rw [g1]
    cases p with
    | none => rfl
    | some i => simp only [Option.map_some, Id.ren_blk]
  | gone => trivial

theorem Low.obj {n : Nat} {B0 : Nat → Prop} {m : Plcs} {w : World} {k : Nat} {o : AObj} (h : ObjR n B0 m w k o) : RO (fun k => k) n o o := by
  have cells : ∀ {b : Bool} {c : List AV}, CellsR n B0 m w k b c → Ones c ∧ RVL (fun k => k) n c c := fun {b c} h => by
    obtain ⟨_, a, _, _, _, _, h4, _, h5, h6⟩ := h
    refine ⟨h5, ?_⟩
    clear h5 h4
    generalize (m k).base = s at h6
    induction c generalizing s with
    | nil => simp [RVL]
    | cons v c ih =>
      simp only [RVL]
      obtain ⟨x, _, hx⟩ := h6 0 v rfl
      exact ⟨low_of_VR v x hx, ih (s + 1) fun j u hu => by
        obtain ⟨x, h1, h2⟩ := h6 (j + 1) u (by simpa using hu)
        exact ⟨x, by rw [← h1]; congr 1; omega, h2⟩⟩
  cases o with
  | var c => exact cells h
  | arr c => exact cells h
  | map es clock =>
    obtain ⟨_, es', _, he⟩ := h
    simp only [RO, true_and]
    generalize es'.toList = l at he
    induction es generalizing l with
    | nil => simp [RE]
    | cons e r ih =>
      obtain ⟨k, v, b⟩ := e
      simp only [EntR] at he
      obtain ⟨e, l', g1, g2, g3, g4, g5⟩ := he
      simp only [RE, true_and]
      exact ⟨low_of_VR _ _ g2, low_of_VR _ _ g3, ih _ g5⟩
  | iter p since seen last =>
    simp only [RO]
    exact ⟨by cases p <;> simp [Id.ren_id], h.2.2.1⟩
  | gone => trivial

/-- All objects of a memory mention only objects of it. -/
def LowH (n : Nat) (H : Heap) : Prop := ∀ (k : Nat) o, H[k]? = some o → RO (fun k => k) n o o

theorem Rel.low {W0 : Bw} {m : Plcs} {H : Heap} {w : World} (R : Rel W0 m H w) : LowH H.length H := fun k o h => Low.obj (R.objs k o h)

theorem RE_low {f : Nat → Nat} {n n2 : Nat} (hf : ∀ k, k < n → f k = k) (hn : n ≤ n2) : ∀ {l : List (AV × AV × Nat)}, RE (fun k => k) n l l → RE f n2 l l
  | [], _ => by simp [RE]
  | (k, v, b) :: r, h => by
    simp only [RE] at h
    simp only [RE, true_and]
    exact ⟨Low.rv hf hn k h.1, Low.rv hf hn v h.2.1, RE_low hf hn h.2.2.2⟩

theorem RO_low {f : Nat → Nat} {n n2 : Nat} (hf : ∀ k, k < n → f k = k) (hn : n ≤ n2) {o : AObj} (h : RO (fun k => k) n o o) : RO f n2 o o := by
  cases o with
  | var c => exact ⟨h.1, LowL.rv hf hn c h.2⟩
  | arr c => exact ⟨h.1, LowL.rv hf hn c h.2⟩
  | map es clock => exact ⟨rfl, RE_low hf hn h.2⟩
  | iter p since seen last =>
    refine ⟨?_, fun i hi => Id.ok_mono hn (h.2 i hi)⟩
    cases p with
    | none => rfl
    | some i => simp only [Option.map_some, Id.ren_low hf (h.2 i rfl)]
  | gone => trivial

/-- Memory made tidy: the first n0 objects stay where they are. -/
structure Cln (n0 : Nat) (f : Nat → Nat) (H H2 : Heap) : Prop where
  len : n0 ≤ H2.length
  low : ∀ k, k < n0 → f k = k
  inj : ∀ j k, j < H2.length → k < H2.length → f j = f k → j = k
  objs : ∀ (j : Nat) o2, H2[j]? = some o2 → o2 = .gone ∨ ∃ o, H[f j]? = some o ∧ RO f H2.length o2 o

theorem RO.live {f : Nat → Nat} {n : Nat} {o2 o : AObj} (h : RO f n o2 o) (hl : o2.live = true) : o.live = true := by
  cases o2 with
  | var c => cases o <;> simp only [RO] at h; rfl
  | arr c => cases o <;> simp only [RO] at h; rfl
  | map es clock => cases o <;> simp only [RO] at h; rfl
  | iter p since seen last => simp only [RO] at h; rw [h.1]; rfl
  | gone => simp [AObj.live] at hl

theorem Rel.clean {W0 : Bw} {m : Plcs} {H H2 : Heap} {w : World} {n0 : Nat} {f : Nat → Nat} (R : Rel W0 m H w) (C : Cln n0 f H H2) : Rel W0 (fun k => m (f k)) H2 w := by
  refine ⟨R.below, fun k o hk => ?_, fun k l o o' hk hl ho ho' hne => ?_⟩
  · rcases C.objs k o hk with rfl | ⟨o', h1, h2⟩
    · trivial
    · exact RO_ok h2 (R.objs _ _ h1)
  · rcases C.objs k o hk with rfl | ⟨p, h1, h2⟩
    · simp [AObj.live] at ho
    · rcases C.objs l o' hl with rfl | ⟨q, h3, h4⟩
      · simp [AObj.live] at ho'
      · have lt : ∀ {i : Nat} {o : AObj}, H2[i]? = some o → i < H2.length := fun {i o} h => by
          rcases Nat.lt_or_ge i H2.length with h' | h'
          · exact h'
          · rw [List.getElem?_eq_none h'] at h; cases h
        exact R.inj (f k) (f l) p q h1 h3 (h2.live ho) (h4.live ho') fun e => hne (C.inj k l (lt hk) (lt hl) e)

/-- Slots that are forgotten. -/
def Forget (e e2 : Env) : Prop := e2.n = e.n ∧ ∀ t v2, e2.f t = some v2 → v2 = .dead ∨ e.f t = some v2
/-- Slots, as they are numbered anew. -/
def RVE (f : Nat → Nat) (n : Nat) (e2 e : Env) : Prop := e2.n = e.n ∧ ∀ t v2, e2.f t = some v2 → ∃ v, e.f t = some v ∧ RV f n v2 v

/-- Tidied: memory and a value; memory and slots. -/
def CleanV (n0 : Nat) (H : Heap) (v : AV) (H2 : Heap) (v2 : AV) : Prop := ∃ f, Cln n0 f H H2 ∧ RV f H2.length v2 v
def CleanE (n0 : Nat) (H : Heap) (e : Env) (H2 : Heap) (e2 : Env) : Prop :=
  (H2 = H ∧ Forget e e2) ∨ ∃ f, Cln n0 f H H2 ∧ RVE f H2.length e2 e

theorem CleanE.ok {W0 : Bw} {m : Plcs} {H H2 : Heap} {w : World} {n0 : Nat} {e e2 : Env} {a : Act} (hn : n0 ≤ H.length) (R : Rel W0 m H w) (E : EnvR H.length m e a) (C : CleanE n0 H e H2 e2) :
    ∃ m2, n0 ≤ H2.length ∧ (∀ k, k < n0 → m k = m2 k) ∧ Rel W0 m2 H2 w ∧ EnvR H2.length m2 e2 a := by
  rcases C with ⟨rfl, hf1, hf2⟩ | ⟨f, C, hr1, hr2⟩
  · refine ⟨m, hn, fun _ _ => rfl, R, E.1.trans hf1.symm, fun t v2 h => ?_⟩
    rcases hf2 t v2 h with rfl | h
    · simp [VR]
    · exact E.2 t v2 h
  · refine ⟨fun k => m (f k), C.len, fun k hk => by simp only [C.low k hk], R.clean C, E.1.trans hr1.symm, fun t v2 h => ?_⟩
    obtain ⟨v, h1, h2⟩ := hr2 t v2 h
    exact RV_ok _ _ _ h2 (E.2 t v h1)
theorem CleanV.ok {W0 : Bw} {m : Plcs} {H H2 : Heap} {w : World} {n0 : Nat} {v v2 : AV} {x : Value} (R : Rel W0 m H w) (hv : VR H.length m v x) (C : CleanV n0 H v H2 v2) :
    ∃ m2, n0 ≤ H2.length ∧ (∀ k, k < n0 → m k = m2 k) ∧ Rel W0 m2 H2 w ∧ VR H2.length m2 v2 x := by
  obtain ⟨f, C, hr⟩ := C
  exact ⟨fun k => m (f k), C.len, fun k hk => by simp only [C.low k hk], R.clean C, RV_ok _ _ _ hr hv⟩

end Go.Am
