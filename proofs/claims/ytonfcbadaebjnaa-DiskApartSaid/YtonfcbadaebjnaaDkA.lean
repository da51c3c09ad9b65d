/- A disk in memory: what it owns, and what stays as it was behind what is written. -/
import Derived.Test.YtonfcbadaebjnaaAgX1
import Derived.Test.YtonfcbadaebjnaaAgX2
import Derived.Test.YtonfcbadaebjnaaAgX3
import Derived.Test.YtonfcbadaebjnaaAgX4
import Derived.Test.YtonfcbadaebjnaaAgX5
import Derived.Test.YtonfcbadaebjnaaAgX6
import Derived.Test.YtonfcbadaebjnaaAgX7
import Derived.Test.YtonfcbadaebjnaaAgX8
import Derived.Test.YtonfcbadaebjnaaAgX9
import Derived.Test.YtonfcbadaebjnaaAgX10
import Derived.Test.YtonfcbadaebjnaaAmU
namespace Go.Am
open Go

/-- A file: its name, where it lies, the object behind its bytes, its bytes, how many are synced, when it came into the map. -/
structure DF where
  name : List UInt8
  a : Nat
  o : Option Nat
  s : List UInt8
  syn : Nat
  born : Nat
  /-- What room is known behind its bytes: not told; or none, and then it has none. -/
  z : Option Nat

def rowV (o : Option Nat) (len es : Nat) : AV := match o with
  | none => .nils
  | some k => .slice (.new k) 0 len es none
def rowZ (z o : Option Nat) (len : Nat) : AV := match o with
  | none => .nils
  | some k => .slice (.new k) 0 len 1 z
def DF.v (f : DF) : AV := rowZ f.z f.o f.s.length
def DF.obj (f : DF) : AObj := .var [f.v, .int .i64 (f.syn : Int)]
def DF.ptr (f : DF) : AV := .ptr (some (.new f.a, 0))
def DF.ent (f : DF) : AV × AV × Nat := (.str f.name, f.ptr, f.born)

structure DS where
  m : Nat
  fs : List DF
  clock : Nat
  po : Option Nat
  ps : List (Nat × Nat)
  cap : Int
  down : Bool
  armed : Int
  keep : Int

def prow (p : Nat × Nat) : List AV := [.ptr (some (.new p.1, 0)), .int .i64 (p.2 : Int)]
def DS.pv (S : DS) : AV := rowV S.po S.ps.length 2
def DS.obj (S : DS) : AObj := .var [.map (some (.new S.m)), S.pv, .int .i64 S.cap, .bool S.down, .int .i64 S.armed, .int .i64 S.keep]

/-- Rows of one's own: none, or an object that begins with them. -/
def RowAt (G : Heap) (o : Option Nat) (rows : List (List AV)) : Prop := match o with
  | none => rows = []
  | some k => ∃ t, G[k]? = some (.arr (rows.flatten ++ t))

theorem prow_len (ps : List (Nat × Nat)) : ∀ r, r ∈ ps.map prow → r.length = 2 := fun r hr => by
  obtain ⟨p, _, rfl⟩ := List.mem_map.1 hr; rfl

theorem get_ne {G : Heap} {i j : Nat} {x y : AObj} (hi : G[i]? = some x) (hj : G[j]? = some y) (h : x ≠ y) : i ≠ j := fun e => by
  subst e; rw [hi] at hj; cases hj; exact h rfl

theorem RowAt.keep {G G' : Heap} {o : Option Nat} {rows : List (List AV)} (h : RowAt G o rows) (hk : ∀ k, o = some k → G'[k]? = G[k]?) : RowAt G' o rows := by
  cases o with
  | none => exact h
  | some k =>
    obtain ⟨t, h⟩ := h
    exact ⟨t, (hk k rfl).trans h⟩
theorem RowAt.sl {B : Base} {G : Heap} {o : Option Nat} {es : Nat} {rows : List (List AV)} (h : RowAt G o rows) (he : ∀ r, r ∈ rows → r.length = es) : Sl B G es (rowV o rows.length es) rows := by
  cases o with
  | none => exact ⟨he, .inl ⟨rfl, h⟩⟩
  | some k =>
    obtain ⟨t, h⟩ := h
    refine ⟨he, .inr ⟨_, _, _, rfl, cellsAt_iff'.2 ⟨rows.flatten ++ t, by simp only [cellsOf, h], ?_, ?_⟩⟩⟩
    · rw [List.length_append, flatten_len he]; omega
    · rw [List.drop_zero, ← flatten_len he, List.take_left']
      rfl
theorem RowAt.lt {G : Heap} {k : Nat} {rows : List (List AV)} (h : RowAt G (some k) rows) : k < G.length := by
  obtain ⟨t, h⟩ := h; exact lt_of_get h
theorem RowAt.bs {B : Base} {G : Heap} {o : Option Nat} {s : List UInt8} (h : RowAt G o (s.map brw)) : Bs B G (rowV o s.length 1) s := by
  have := h.sl (B := B) (brws_len s)
  rwa [List.length_map] at this
theorem RowAt.bsTake {G : Heap} {o : Option Nat} {s : List UInt8} (h : RowAt G o (s.map brw)) (n : Nat) : RowAt G o ((s.take n).map brw) := by
  cases o with
  | none =>
    have : s = [] := by simpa [RowAt] using h
    subst this; simp [RowAt]
  | some k =>
    obtain ⟨t, h⟩ := h
    refine ⟨((s.drop n).map brw).flatten ++ t, ?_⟩
    rw [← List.append_assoc, ← List.flatten_append, ← List.map_append, List.take_append_drop]
    exact h

/-- A file's bytes. -/
def FileAt (G : Heap) (z o : Option Nat) (s : List UInt8) : Prop := RowAt G o (s.map brw) ∧ (z = none ∨ (z = some 0 ∧ s = []))
theorem FileAt.keep {G G' : Heap} {z o : Option Nat} {s : List UInt8} (h : FileAt G z o s) (hk : ∀ k, o = some k → G'[k]? = G[k]?) : FileAt G' z o s := ⟨h.1.keep hk, h.2⟩
theorem FileAt.bs {B : Base} {G : Heap} {z o : Option Nat} {s : List UInt8} (h : FileAt G z o s) : Bs B G (rowZ z o s.length) s := by
  cases o with
  | none => exact h.1.bs (B := B)
  | some k =>
    obtain ⟨h0, h1 | ⟨o', off, cap, e, hc⟩⟩ := h.1.bs (B := B)
    · exact absurd h1.1 (by simp [rowV])
    · refine ⟨h0, .inr ⟨.new k, 0, z, by rw [List.length_map]; rfl, ?_⟩⟩
      simp only [rowV, AV.slice.injEq] at e
      obtain ⟨rfl, rfl, _⟩ := e
      exact hc
theorem FileAt.len {G : Heap} {z o : Option Nat} {s : List UInt8} (h : FileAt G z o s) : lenOf (rowZ z o s.length) = some s.length := by
  cases o with
  | none => have : s = [] := by simpa using (show s.map brw = [] from h.1)
            subst this; rfl
  | some k => rfl
theorem FileAt.bsTake {G : Heap} {z o : Option Nat} {s : List UInt8} (h : FileAt G z o s) (n : Nat) : FileAt G z o (s.take n) := ⟨h.1.bsTake n, by
  rcases h.2 with e | ⟨e, e2⟩
  · exact .inl e
  · exact .inr ⟨e, by rw [e2]; simp⟩⟩

/-- Append to rows of one's own. -/
theorem op_appRow {B : Base} {G : Heap} {o : Option Nat} {es bytes : Nat} {rows1 rows2 : List (List AV)} {u : AV} {K : AV → Heap → Prop} (h : RowAt G o rows1) (he : ∀ r, r ∈ rows1 → r.length = es) (hu : Sl B G es u rows2) (hb : (rows1.length + rows2.length) * bytes ≤ maxBytes)
    (hk : ∀ o' G', G.length ≤ G'.length → (∀ k, k < G.length → o ≠ some k → G'[k]? = G[k]?) → RowAt G' o' (rows1 ++ rows2) → (∀ k, o' = some k → o = some k ∨ G.length ≤ k) → K (rowV o' (rows1 ++ rows2).length es) G') :
    aop B E0 G K (.append es bytes (.const (rowV o rows1.length es)) (.const u)) := by
  simp only [aop, opK, Opd.look, ob_some, hu.len, hu.elems]
  rw [if_pos (flatten_len hu.1)]
  by_cases hne : rows2 = []
  · subst hne
    have := hk o G (Nat.le_refl _) (fun _ _ _ => rfl) (by simpa using h) (fun k hk => .inl hk)
    cases o with
    | none =>
      rw [List.append_nil] at this
      exact this
    | some k =>
      rw [List.append_nil] at this
      exact this
  · have hl : rows2.length ≠ 0 := fun e => hne (List.length_eq_zero_iff.1 e)
    cases o with
    | none =>
      have e1 : rows1 = [] := h
      subst e1
      show ob (appendTo B G es bytes .nils rows2.length rows2.flatten) _
      rw [appendTo_nil hl (by simpa using hb), ob_some]
      have := hk (some G.length) (G ++ [.arr rows2.flatten]) (by simp) (fun k hk _ => get_low hk) ⟨[], by rw [get_app0]; simp⟩ (fun k hk => by cases hk; exact .inr (Nat.le_refl _))
      simpa [rowV] using this
    | some k =>
      have hlt := h.lt
      obtain ⟨t, h⟩ := h
      have hc : cellsAt B G (.new k) 0 (rows1.length * es) = some rows1.flatten :=
        cellsAt_iff'.2 ⟨rows1.flatten ++ t, by simp only [cellsOf, h], by rw [List.length_append, flatten_len he]; omega, by rw [List.drop_zero, ← flatten_len he, List.take_left']; rfl⟩
      show ob (appendTo B G es bytes (.slice (.new k) 0 rows1.length es none) rows2.length rows2.flatten) _
      rw [appendTo_own hl hb hc, ob_some]
      have := hk (some G.length) (G.set k .gone ++ [.arr (rows1.flatten ++ rows2.flatten)]) (by simp) (fun j hj hne' => by
        rw [get_low (by simpa using hj), get_set_ne (fun e => hne' (by rw [e]))]) ⟨[], by
          have : (G.set k .gone).length = G.length := by simp
          rw [← this, get_app0]; simp⟩ (fun k hk => by cases hk; exact .inr (Nat.le_refl _))
      simpa [rowV] using this

/-- Append to a file's bytes. -/
def zapp (z : Option Nat) (b : List UInt8) : Option Nat := if b = [] then z else none
theorem op_appFile {B : Base} {G : Heap} {z o : Option Nat} {s b : List UInt8} {u : AV} {K : AV → Heap → Prop} (h : FileAt G z o s) (hu : Bs B G u b) (hb : s.length + b.length ≤ maxBytes)
    (hk : ∀ o' G', G.length ≤ G'.length → (∀ k, k < G.length → o ≠ some k → G'[k]? = G[k]?) → FileAt G' (zapp z b) o' (s ++ b) → (∀ k, o' = some k → o = some k ∨ G.length ≤ k) → K (rowZ (zapp z b) o' (s ++ b).length) G') :
    aop B E0 G K (.append 1 1 (.const (rowZ z o s.length)) (.const u)) := by
  obtain ⟨hr, hz⟩ := h
  by_cases e : z = none
  · subst e
    have ez : zapp none b = none := by unfold zapp; split <;> rfl
    rw [ez] at hk
    have happ := op_appRow (B := B) (bytes := 1) (K := K) (u := u) (rows2 := b.map brw) hr (brws_len s) hu (by rw [List.length_map, List.length_map]; omega) fun o' G' h1 h2 h3 h4 => ?_
    · rw [List.length_map] at happ
      cases o <;> exact happ
    · rw [← List.map_append] at h3 ⊢
      rw [List.length_map]
      have := hk o' G' h1 h2 ⟨h3, .inl rfl⟩ h4
      cases o' <;> exact this
  · obtain ⟨rfl, rfl⟩ := hz.resolve_left e
    simp only [aop, opK, Opd.look, ob_some, hu.len, Sl.elems hu]
    rw [if_pos (by rw [flatten_len (brws_len b), List.length_map])]
    by_cases eb : b = []
    · subst eb
      have ez : zapp (some 0) [] = some 0 := rfl
      rw [ez] at hk
      have := hk o G (Nat.le_refl _) (fun _ _ _ => rfl) ⟨hr, .inr ⟨rfl, rfl⟩⟩ fun k hk => .inl hk
      cases o <;> exact this
    · have ez : zapp (some 0) b = none := if_neg eb
      rw [ez] at hk
      have hbl : b.length ≠ 0 := fun e => eb (List.length_eq_zero_iff.1 e)
      have hnew := hk (some G.length) (G ++ [.arr (b.map brw).flatten]) (by simp) (fun k hk _ => get_low hk) ⟨⟨[], by rw [get_app0]; simp⟩, .inl rfl⟩ (fun k hk => by cases hk; exact .inr (Nat.le_refl _))
      have hb2 : b.length ≤ maxBytes := by simpa using hb
      cases o with
      | none =>
        show ob (appendTo B G 1 1 .nils b.length (b.map brw).flatten) _
        rw [appendTo_nil hbl (by simpa using hb2), ob_some]
        exact hnew
      | some k =>
        obtain ⟨t, ht⟩ := hr
        have hc : cellsAt B G (.new k) 0 (0 * 1) = some [] := cellsAt_iff'.2 ⟨([].map brw).flatten ++ t, by simp only [cellsOf, ht], by omega, by simp⟩
        show ob (appendTo B G 1 1 (.slice (.new k) 0 0 1 (some 0)) b.length (b.map brw).flatten) _
        unfold appendTo
        rw [if_neg hbl]
        simp only [if_true]
        rw [if_neg (by omega), if_pos (by simpa using hb2), hc, Option.map_some, ob_some, List.nil_append, Nat.zero_add]
        exact hnew

/-- A disk at a place. -/
structure Dk (G : Heap) (d : Nat) (S : DS) : Prop where
  top : G[d]? = some S.obj
  mp : G[S.m]? = some (.map (S.fs.map DF.ent) S.clock)
  fil : ∀ f, f ∈ S.fs → G[f.a]? = some f.obj
  row : ∀ f, f ∈ S.fs → FileAt G f.z f.o f.s
  pcs : RowAt G S.po (S.ps.map prow)
  nms : (S.fs.map DF.name).Nodup
  ads : (S.fs.map DF.a).Nodup
  bns : (S.fs.map DF.born).Nodup
  blt : ∀ f, f ∈ S.fs → f.born < S.clock
  arr : ∀ f g, f ∈ S.fs → g ∈ S.fs → ∀ k, f.o = some k → g.o = some k → f.a = g.a
  arp : ∀ f, f ∈ S.fs → ∀ k, f.o = some k → S.po ≠ some k

/-- What it owns. -/
def Own (d : Nat) (S : DS) (k : Nat) : Prop := k = d ∨ k = S.m ∨ (∃ f, f ∈ S.fs ∧ (k = f.a ∨ f.o = some k)) ∨ S.po = some k

/-- What others have stays; what it owns it had, or it is new. -/
structure Fr (G : Heap) (d : Nat) (S : DS) (G' : Heap) (S' : DS) : Prop where
  le : G.length ≤ G'.length
  same : ∀ k, k < G.length → ¬ Own d S k → G'[k]? = G[k]?
  own : ∀ k, Own d S' k → Own d S k ∨ G.length ≤ k

theorem Fr.rfl' {G : Heap} {d : Nat} {S : DS} : Fr G d S G S := ⟨Nat.le_refl _, fun _ _ _ => rfl, fun _ h => .inl h⟩
theorem Fr.trans {G G' G'' : Heap} {d : Nat} {S S' S'' : DS} (h : Fr G d S G' S') (h' : Fr G' d S' G'' S'') : Fr G d S G'' S'' := by
  refine ⟨Nat.le_trans h.le h'.le, fun k hk ho => ?_, fun k ho => ?_⟩
  · have : ¬ Own d S' k := fun e => by
      rcases h.own k e with e | e
      · exact ho e
      · omega
    rw [h'.same k (Nat.lt_of_lt_of_le hk h.le) this, h.same k hk ho]
  · rcases h'.own k ho with e | e
    · exact h.own k e
    · exact .inr (Nat.le_trans h.le e)
theorem Fr.get {G G' : Heap} {d : Nat} {S S' : DS} (h : Fr G d S G' S') {k : Nat} {o : AObj} (hg : G[k]? = some o) (ho : ¬ Own d S k) : G'[k]? = some o ∧ ¬ Own d S' k := by
  have hk := lt_of_get hg
  refine ⟨(h.same k hk ho).trans hg, fun e => ?_⟩
  rcases h.own k e with e | e
  · exact ho e
  · omega

structure Nx (G : Heap) (d : Nat) (S : DS) (G' : Heap) (S' : DS) : Prop where
  dk : Dk G' d S'
  fr : Fr G d S G' S'
theorem Nx.trans {G G' G'' : Heap} {d : Nat} {S S' S'' : DS} (h : Nx G d S G' S') (h' : Nx G' d S' G'' S'') : Nx G d S G'' S'' := ⟨h'.dk, h.fr.trans h'.fr⟩

section
variable {G G' : Heap} {d : Nat} {S S' : DS}

theorem Dk.lt (h : Dk G d S) {k : Nat} (ho : Own d S k) : k < G.length := by
  rcases ho with rfl | rfl | ⟨f, hf, rfl | hk⟩ | hk
  · exact lt_of_get h.top
  · exact lt_of_get h.mp
  · exact lt_of_get (h.fil f hf)
  · have := (h.row f hf).1; rw [hk] at this; exact this.lt
  · have := h.pcs; rw [hk] at this; exact this.lt
theorem Dk.row_get (h : Dk G d S) {f : DF} (hf : f ∈ S.fs) {k : Nat} (hk : f.o = some k) : ∃ c, G[k]? = some (.arr c) := by
  have := (h.row f hf).1; rw [hk] at this; obtain ⟨t, this⟩ := this; exact ⟨_, this⟩
theorem Dk.pcs_get (h : Dk G d S) {k : Nat} (hk : S.po = some k) : ∃ c, G[k]? = some (.arr c) := by
  have := h.pcs; rw [hk] at this; obtain ⟨t, this⟩ := this; exact ⟨_, this⟩
theorem DF.obj_ne (f : DF) (S : DS) : f.obj ≠ S.obj := fun e => by simp [DF.obj, DS.obj] at e
theorem Dk.same (h : Dk G d S) (hk : ∀ k, Own d S k → G'[k]? = G[k]?) : Dk G' d S where
  top := (hk _ (.inl rfl)).trans h.top
  mp := (hk _ (.inr (.inl rfl))).trans h.mp
  fil := fun f hf => (hk _ (.inr (.inr (.inl ⟨f, hf, .inl rfl⟩)))).trans (h.fil f hf)
  row := fun f hf => (h.row f hf).keep fun k e => hk _ (.inr (.inr (.inl ⟨f, hf, .inr e⟩)))
  pcs := h.pcs.keep fun k e => hk _ (.inr (.inr (.inr e)))
  nms := h.nms
  ads := h.ads
  bns := h.bns
  blt := h.blt
  arr := h.arr
  arp := h.arp
theorem Dk.app (h : Dk G d S) (L : Heap) : Dk (G ++ L) d S := h.same fun k ho => get_low (h.lt ho)
theorem Fr.app (L : Heap) : Fr G d S (G ++ L) S := ⟨by simp, fun k hk _ => get_low hk, fun k h => .inl h⟩
theorem Nx.app (h : Dk G d S) (L : Heap) : Nx G d S (G ++ L) S := ⟨h.app L, Fr.app L⟩
theorem Nx.rfl' (h : Dk G d S) : Nx G d S G S := ⟨h, Fr.rfl'⟩
/-- What is not owned may be written. -/
theorem Dk.other (h : Dk G d S) {k : Nat} {o : AObj} (ho : ¬ Own d S k) : Dk (G.set k o) d S := h.same fun j hj => get_set_ne (fun e => ho (e ▸ hj))

/-- Files by their places. -/
def updF (a : Nat) (f' : DF) (g : DF) : DF := if g.a = a then f' else g
theorem ads_eq {fs : List DF} (h : (fs.map DF.a).Nodup) {f g : DF} (hf : f ∈ fs) (hg : g ∈ fs) (e : f.a = g.a) : f = g := by
  induction fs with
  | nil => cases hf
  | cons x r ih =>
    simp only [List.map_cons, List.nodup_cons] at h
    rcases List.mem_cons.1 hf with e1 | hf <;> rcases List.mem_cons.1 hg with e2 | hg
    · rw [e1, e2]
    · exact absurd (List.mem_map.2 ⟨g, hg, by rw [← e, e1]⟩) h.1
    · exact absurd (List.mem_map.2 ⟨f, hf, by rw [e, e2]⟩) h.1
    · exact ih h.2 hf hg
theorem updF_map {α : Type} {fs : List DF} {f f' : DF} (ha : (fs.map DF.a).Nodup) (hf : f ∈ fs) (p : DF → α) (hp : p f' = p f) : (fs.map (updF f.a f')).map p = fs.map p := by
  rw [List.map_map]
  refine List.map_congr_left fun g hg => ?_
  simp only [Function.comp, updF]
  split
  · rename_i e
    rw [ads_eq ha hg hf e, hp]
  · rfl
theorem updF_mem {fs : List DF} {f f' g : DF} (hg : g ∈ fs.map (updF f.a f')) : g = f' ∨ (g ∈ fs ∧ g.a ≠ f.a) := by
  obtain ⟨x, hx, rfl⟩ := List.mem_map.1 hg
  unfold updF
  split
  · exact .inl rfl
  · rename_i e; exact .inr ⟨hx, e⟩

/-- A file is written. -/
theorem Dk.file (h : Dk G d S) {f f' : DF} (hf : f ∈ S.fs) (hn : f'.name = f.name) (ha : f'.a = f.a) (hb : f'.born = f.born) (hle : G.length ≤ G'.length)
    (hG : ∀ k, k < G.length → k ≠ f.a → f.o ≠ some k → G'[k]? = G[k]?) (hobj : G'[f.a]? = some f'.obj) (hrow : FileAt G' f'.z f'.o f'.s) (ho : ∀ k, f'.o = some k → f.o = some k ∨ G.length ≤ k) :
    Nx G d S G' { S with fs := S.fs.map (updF f.a f') } := by
  have hda : d ≠ f.a := get_ne h.top (h.fil f hf) (Ne.symm (DF.obj_ne _ _))
  have hma : S.m ≠ f.a := get_ne h.mp (h.fil f hf) (by simp [DF.obj])
  have key : ∀ {k : Nat} {x : AObj}, G[k]? = some x → k ≠ f.a → f.o ≠ some k → G'[k]? = some x := fun hk h1 h2 => (hG _ (lt_of_get hk) h1 h2).trans hk
  have ho' : ∀ {k : Nat} {x : AObj}, G[k]? = some x → (∀ c, x ≠ .arr c) → f.o ≠ some k := fun {k} {x} hk hx e => by
    obtain ⟨c, hc⟩ := h.row_get hf e
    rw [hc] at hk; cases hk; exact hx c rfl
  refine ⟨⟨?_, ?_, fun g hg => ?_, fun g hg => ?_, ?_, ?_, ?_, ?_, fun g hg => ?_, fun g1 g2 hg1 hg2 k h1 h2 => ?_, fun g hg k hk => ?_⟩, ⟨hle, fun k hk hno => ?_, fun k hk => ?_⟩⟩
  · exact key h.top hda (ho' h.top (by simp [DS.obj]))
  · have : (S.fs.map (updF f.a f')).map DF.ent = S.fs.map DF.ent := updF_map h.ads hf DF.ent (by simp [DF.ent, DF.ptr, hn, ha, hb])
    simp only [this]
    exact key h.mp hma (ho' h.mp (by simp))
  · rcases updF_mem hg with rfl | ⟨hg, hne⟩
    · rw [ha]; exact hobj
    · exact key (h.fil g hg) hne (ho' (h.fil g hg) (by simp [DF.obj]))
  · rcases updF_mem hg with rfl | ⟨hg, hne⟩
    · exact hrow
    · refine (h.row g hg).keep fun k e => ?_
      obtain ⟨c, hc⟩ := h.row_get hg e
      refine hG k (lt_of_get hc) (get_ne hc (h.fil f hf) (by simp [DF.obj])) fun e2 => hne (h.arr g f hg hf k e e2)
  · refine h.pcs.keep fun k e => ?_
    obtain ⟨c, hc⟩ := h.pcs_get e
    exact hG k (lt_of_get hc) (get_ne hc (h.fil f hf) (by simp [DF.obj])) fun e2 => h.arp f hf k e2 e
  · rw [updF_map h.ads hf DF.name hn]; exact h.nms
  · rw [updF_map h.ads hf DF.a ha]; exact h.ads
  · rw [updF_map h.ads hf DF.born hb]; exact h.bns
  · rcases updF_mem hg with rfl | ⟨hg, hne⟩
    · rw [hb]; exact h.blt f hf
    · exact h.blt g hg
  · have hlt : ∀ g, g ∈ S.fs → ∀ k, g.o = some k → k < G.length := fun g hg k e => by obtain ⟨c, hc⟩ := h.row_get hg e; exact lt_of_get hc
    rcases updF_mem hg1 with e1 | ⟨ha1, hne1⟩ <;> rcases updF_mem hg2 with e2 | ⟨ha2, hne2⟩
    · rw [e1, e2]
    · rw [e1] at h1
      rcases ho k h1 with e | e
      · exact absurd (h.arr f g2 hf ha2 k e h2).symm hne2
      · have := hlt g2 ha2 k h2; omega
    · rw [e2] at h2
      rcases ho k h2 with e | e
      · exact absurd (h.arr f g1 hf ha1 k e h1).symm hne1
      · have := hlt g1 ha1 k h1; omega
    · exact h.arr g1 g2 ha1 ha2 k h1 h2
  · rcases updF_mem hg with rfl | ⟨hg, hne⟩
    · rcases ho k hk with e | e
      · exact h.arp f hf k e
      · intro e2
        obtain ⟨c, hc⟩ := h.pcs_get e2
        have := lt_of_get hc; omega
    · exact h.arp g hg k hk
  · refine hG k hk (fun e => hno (.inr (.inr (.inl ⟨f, hf, .inl e⟩)))) fun e => hno (.inr (.inr (.inl ⟨f, hf, .inr e⟩)))
  · rcases hk with rfl | rfl | ⟨g, hg, hk⟩ | hk
    · exact .inl (.inl rfl)
    · exact .inl (.inr (.inl rfl))
    · rcases updF_mem hg with rfl | ⟨hg, hne⟩
      · rcases hk with rfl | hk
        · rw [ha]; exact .inl (.inr (.inr (.inl ⟨f, hf, .inl rfl⟩)))
        · rcases ho k hk with e | e
          · exact .inl (.inr (.inr (.inl ⟨f, hf, .inr e⟩)))
          · exact .inr e
      · exact .inl (.inr (.inr (.inl ⟨g, hg, hk⟩)))
    · exact .inl (.inr (.inr (.inr hk)))

/-- The disk's own variable is written, and the pieces with it. -/
theorem Dk.head (h : Dk G d S) (hm : S'.m = S.m) (hf : S'.fs = S.fs) (hc : S'.clock = S.clock) (hle : G.length ≤ G'.length)
    (hG : ∀ k, k < G.length → k ≠ d → S.po ≠ some k → G'[k]? = G[k]?) (hobj : G'[d]? = some S'.obj) (hrow : RowAt G' S'.po (S'.ps.map prow)) (ho : ∀ k, S'.po = some k → S.po = some k ∨ G.length ≤ k) :
    Nx G d S G' S' := by
  have key : ∀ {k : Nat} {x : AObj}, G[k]? = some x → k ≠ d → S.po ≠ some k → G'[k]? = some x := fun hk h1 h2 => (hG _ (lt_of_get hk) h1 h2).trans hk
  have ho' : ∀ {k : Nat} {x : AObj}, G[k]? = some x → (∀ c, x ≠ .arr c) → S.po ≠ some k := fun {k} {x} hk hx e => by
    obtain ⟨c, hc⟩ := h.pcs_get e
    rw [hc] at hk; cases hk; exact hx c rfl
  refine ⟨⟨hobj, ?_, fun g hg => ?_, fun g hg => ?_, hrow, ?_, ?_, ?_, fun g hg => ?_, fun g1 g2 hg1 hg2 k h1 h2 => ?_, fun g hg k hk => ?_⟩, ⟨hle, fun k hk hno => ?_, fun k hk => ?_⟩⟩
  · rw [hm, hf, hc]
    exact key h.mp (get_ne h.mp h.top (by simp [DS.obj])) (ho' h.mp (by simp))
  · rw [hf] at hg
    exact key (h.fil g hg) (get_ne (h.fil g hg) h.top (DF.obj_ne _ _)) (ho' (h.fil g hg) (by simp [DF.obj]))
  · rw [hf] at hg
    refine (h.row g hg).keep fun k e => ?_
    obtain ⟨c, hc⟩ := h.row_get hg e
    exact hG k (lt_of_get hc) (get_ne hc h.top (by simp [DS.obj])) (h.arp g hg k e)
  · rw [hf]; exact h.nms
  · rw [hf]; exact h.ads
  · rw [hf]; exact h.bns
  · rw [hf] at hg; rw [hc]; exact h.blt g hg
  · rw [hf] at hg1 hg2; exact h.arr g1 g2 hg1 hg2 k h1 h2
  · rw [hf] at hg
    intro e
    rcases ho k e with e | e
    · exact h.arp g hg k hk e
    · obtain ⟨c, hc⟩ := h.row_get hg hk
      have := lt_of_get hc; omega
  · exact hG k hk (fun e => hno (.inl e)) fun e => hno (.inr (.inr (.inr e)))
  · rcases hk with rfl | rfl | ⟨g, hg, hk⟩ | hk
    · exact .inl (.inl rfl)
    · rw [hm]; exact .inl (.inr (.inl rfl))
    · rw [hf] at hg; exact .inl (.inr (.inr (.inl ⟨g, hg, hk⟩)))
    · rcases ho k hk with e | e
      · exact .inl (.inr (.inr (.inr e)))
      · exact .inr e
/-- Only the disk's own variable is written. -/
theorem Dk.set (h : Dk G d S) (hm : S'.m = S.m) (hf : S'.fs = S.fs) (hc : S'.clock = S.clock) (hp : S'.po = S.po) (hq : S'.ps = S.ps) : Nx G d S (G.set d S'.obj) S' := by
  have hd := lt_of_get h.top
  refine h.head hm hf hc (by simp) (fun k hk hne _ => get_set_ne (Ne.symm hne)) (get_set hd) ?_ (fun k hk => .inl (by rw [← hp]; exact hk))
  rw [hp, hq]
  refine h.pcs.keep fun k e => get_set_ne ?_
  obtain ⟨c, hc⟩ := h.pcs_get e
  exact get_ne h.top hc (by simp [DS.obj])

/-! ### Reading and writing a variable's cells -/
theorem op_get {B : Base} {k off : Nat} {c : List AV} {v : AV} {K : AV → Prop} (hg : G[k]? = some (.var c)) (hv : c[off]? = some v) (h : K v) :
    aop B E0 G (fun v1 _ => aop B E0 G (fun v2 _ => ob (peek B G v2) K) (.fieldPtr off (.const v1))) (.nilCheck (.const (.ptr (some (.new k, 0))))) := by
  refine op_nil (op_fldP ?_)
  rw [Nat.zero_add, peekV hg hv]; exact h
theorem op_put {B : Base} {k off : Nat} {c : List AV} {v : AV} {K : AV → Heap → Prop} (hv : v.cells? = some [v]) (hg : G[k]? = some (.var c)) (hl : off < c.length) (h : K .dead (G.set k (.var (c.set off v)))) :
    aop B E0 G (fun v1 _ => aop B E0 G (fun v2 _ => aop B E0 G K (.st 1 (.const v2) (.const v))) (.fieldPtr off (.const v1))) (.nilCheck (.const (.ptr (some (.new k, 0))))) := by
  refine op_nil (op_fldP ?_)
  rw [Nat.zero_add]
  refine op_st hv rfl hg (by omega) ?_
  have : putAt c off [v] = c.set off v := by
    unfold putAt
    rw [List.set_eq_take_append_cons_drop, if_pos hl]; simp
  rw [this]; exact h
end
end Go.Am

/- The disk: a new one, what it holds, how much, whether it is up. -/
namespace Go.Am
open Go

section
variable {B : Base} {G : Heap} {d : Nat} {S : DS} {Q : AV → Heap → Prop}

theorem op_makeMap {K : AV → Heap → Prop} (hk : K (.map (some (.new G.length))) (G ++ [.map [] 0])) : aop B E0 G K .makeMap := hk
theorem op_isNil {k : NilK} {v : AV} {b : Bool} {K : AV → Heap → Prop} (h : nilOf k v = some b) (hk : K (.bool b) G) : aop B E0 G K (.isNil k false (.const v)) := by
  simp only [aop, opK, Opd.look, ob_some, h]
  cases b <;> exact hk

/-! ### The map -/
theorem find_none {x : List UInt8} : ∀ {fs : List DF} (i : Nat), (∀ f, f ∈ fs → f.name ≠ x) → findAt .str (.str x) (fs.map DF.ent) i = some none
  | [], _, _ => rfl
  | f :: r, i, h => by
    have h1 : (x == f.name) = false := by
      have := h f (List.mem_cons_self ..)
      simpa using fun e => this e.symm
    simp only [List.map_cons, findAt, DF.ent, cellEq, h1]
    exact find_none (i + 1) fun g hg => h g (List.mem_cons_of_mem _ hg)
theorem find_some {x : List UInt8} : ∀ {fs : List DF} (i : Nat), (fs.map DF.name).Nodup → ∀ {f : DF}, f ∈ fs → f.name = x → ∃ j, findAt .str (.str x) (fs.map DF.ent) i = some (some (i + j, f.ptr)) ∧ fs[j]? = some f
  | [], _, _, f, hf, _ => by cases hf
  | g :: r, i, hn, f, hf, hx => by
    simp only [List.map_cons, List.nodup_cons] at hn
    by_cases e : g.name = x
    · have hfg : f = g := by
        rcases List.mem_cons.1 hf with e1 | hf
        · exact e1
        · exact absurd (List.mem_map.2 ⟨f, hf, by rw [hx, e]⟩) hn.1
      subst hfg
      refine ⟨0, ?_, rfl⟩
      simp only [List.map_cons, findAt, DF.ent, cellEq, e, beq_self_eq_true, Nat.add_zero]
    · have hf' : f ∈ r := by
        rcases List.mem_cons.1 hf with e1 | hf
        · subst e1; exact absurd hx e
        · exact hf
      obtain ⟨j, h1, h2⟩ := find_some (i + 1) hn.2 hf' hx
      have h3 : (x == g.name) = false := by simpa using fun e' => e e'.symm
      refine ⟨j + 1, ?_, by simpa using h2⟩
      simp only [List.map_cons, findAt, DF.ent, cellEq, h3]
      rw [show i + (j + 1) = i + 1 + j by omega]
      exact h1
theorem op_look (h : Dk G d S) {x : List UInt8} {K : AV → Heap → Prop} (h1 : ∀ f, f ∈ S.fs → f.name = x → K f.ptr G) (h2 : (∀ f, f ∈ S.fs → f.name ≠ x) → K (.ptr none) G) :
    aop B E0 G K (.lookup .str .other (.ptr none) false (.const (.map (some (.new S.m)))) (.const (.str x))) := by
  simp only [aop, opK, Opd.look, ob_some, entriesOf, h.mp]
  by_cases e : ∃ f, f ∈ S.fs ∧ f.name = x
  · obtain ⟨f, hf, hx⟩ := e
    obtain ⟨j, h3, _⟩ := find_some 0 h.nms hf hx
    rw [h3, ob_some]
    exact h1 f hf hx
  · have h3 : ∀ f, f ∈ S.fs → f.name ≠ x := fun f hf hx => e ⟨f, hf, hx⟩
    rw [find_none 0 h3, ob_some]
    exact h2 h3

/-- Those that a range has not handed out yet. -/
def uns (fs : List DF) (seen : List Nat) : List DF := fs.filter fun f => !seen.contains f.born
theorem uns_same {seen : List Nat} {b : Nat} : ∀ {fs : List DF}, (∀ f, f ∈ fs → f.born ≠ b) → uns fs (seen ++ [b]) = uns fs seen
  | [], _ => rfl
  | f :: r, h => by
    have h1 : f.born ≠ b := h f (List.mem_cons_self ..)
    have h2 : (seen ++ [b]).contains f.born = seen.contains f.born := by
      rw [Bool.eq_iff_iff]; simp [h1]
    have ih := uns_same (seen := seen) fun g hg => h g (List.mem_cons_of_mem _ hg)
    unfold uns at ih ⊢
    simp only [List.filter_cons, h2, ih]
theorem uns_perm {seen : List Nat} {f : DF} : ∀ {fs : List DF}, (fs.map DF.born).Nodup → f ∈ fs → f.born ∉ seen → (uns fs seen).Perm (f :: uns fs (seen ++ [f.born]))
  | [], _, hf, _ => by cases hf
  | g :: r, hn, hf, hs => by
    simp only [List.map_cons, List.nodup_cons] at hn
    rcases List.mem_cons.1 hf with e | hf
    · subst e
      have h1 : seen.contains f.born = false := by simpa using hs
      have h2 : (seen ++ [f.born]).contains f.born = true := by simp
      have h3 := uns_same (seen := seen) (b := f.born) (fs := r) fun g hg e => hn.1 (List.mem_map.2 ⟨g, hg, e⟩)
      unfold uns at h3 ⊢
      simp only [List.filter_cons, h1, h2, Bool.not_false, Bool.not_true, if_true, Bool.false_eq_true, if_false, h3]
      exact List.Perm.refl _
    · have ih := uns_perm hn.2 hf hs
      have h1 : g.born ≠ f.born := fun e => hn.1 (List.mem_map.2 ⟨f, hf, e.symm⟩)
      have h2 : (seen ++ [f.born]).contains g.born = seen.contains g.born := by rw [Bool.eq_iff_iff]; simp [h1]
      unfold uns at ih ⊢
      simp only [List.filter_cons, h2]
      split
      · exact (ih.cons g).trans (List.Perm.swap f g _)
      · exact ih
theorem uns_nil {fs : List DF} {seen : List Nat} (h : ∀ f, f ∈ fs → f.born ∈ seen) : uns fs seen = [] := by
  unfold uns
  rw [List.filter_eq_nil_iff]
  intro f hf
  simpa using h f hf

theorem next_dk (h : Dk G d S) {r : Nat} {seen : List Nat} (hr : G[r]? = some (.iter (some (.new S.m)) S.clock seen S.clock)) {K : AV → Heap → Prop} (h0 : (∀ f, f ∈ S.fs → f.born ∈ seen) → K (.tuple [.bool false]) G)
    (h1 : ∀ f, f ∈ S.fs → f.born ∉ seen → K (.tuple [.bool true, .str f.name, f.ptr]) (G.set r (.iter (some (.new S.m)) S.clock (seen ++ [f.born]) S.clock))) :
    nextK E0 G (.const (.ptr (some (.new r, 0)))) K := by
  have hall : ((S.fs.map DF.ent).all (fun e => decide (e.2.2 < S.clock)) && decide (S.clock ≤ S.clock)) = true := by
    simp only [Bool.and_eq_true, decide_eq_true_eq, List.all_eq_true, List.mem_map, Nat.le_refl, and_true]
    rintro e ⟨f, hf, rfl⟩
    exact h.blt f hf
  simp only [nextK, opK, Opd.look, ob_some, hr, h.mp]
  rw [if_pos hall]
  refine ⟨fun hs => h0 fun f hf => ?_, fun e he hs => ?_⟩
  · have := hs _ (List.mem_map.2 ⟨f, hf, rfl⟩)
    simpa [DF.ent] using this
  · obtain ⟨f, hf, rfl⟩ := List.mem_map.1 he
    exact h1 f hf (by simpa [DF.ent] using hs)
theorem entry_dk (h : Dk G d S) {r : Nat} {seen : List Nat} {f : DF} (hr : G[r]? = some (.iter (some (.new S.m)) S.clock (seen ++ [f.born]) S.clock)) (hf : f ∈ S.fs) {K : AV → Heap → Prop} (hK : K (.tuple [.str f.name, f.ptr]) G) :
    entryK E0 G (.const (.ptr (some (.new r, 0)))) K := by
  have hfind : ∀ {fs : List DF}, (fs.map DF.born).Nodup → f ∈ fs → (fs.map DF.ent).find? (fun e => e.2.2 == f.born) = some f.ent := fun {fs} => by
    induction fs with
    | nil => intro _ hf; cases hf
    | cons g r ih =>
      intro hn hf
      simp only [List.map_cons, List.nodup_cons] at hn
      simp only [List.map_cons, List.find?_cons, DF.ent]
      by_cases e : g.born = f.born
      · have : f = g := by
          rcases List.mem_cons.1 hf with e1 | hf
          · exact e1
          · exact absurd (List.mem_map.2 ⟨f, hf, e.symm⟩) hn.1
        subst this
        simp
      · have h1 : (g.born == f.born) = false := by simpa using e
        rw [h1]
        rcases List.mem_cons.1 hf with e1 | hf
        · subst e1; exact absurd rfl e
        · exact ih hn.2 hf
  simp only [entryK, opK, Opd.look, ob_some, hr, h.mp, if_true, List.getLast?_append, List.getLast?_singleton, Option.some_or, hfind h.bns hf]
  exact hK

/-! ### Used -/
def tot (fs : List DF) : Nat := (fs.map fun f => f.s.length).sum
theorem tot_perm {l r : List DF} (h : l.Perm r) : tot l = tot r := (h.map _).sum_nat
theorem tot_cons (f : DF) (r : List DF) : tot (f :: r) = f.s.length + tot r := by simp [tot]
theorem tot_le {fs : List DF} {f : DF} (h : f ∈ fs) : f.s.length ≤ tot fs := by
  induction fs with
  | nil => cases h
  | cons g r ih =>
    rw [tot_cons]
    rcases List.mem_cons.1 h with rfl | h
    · omega
    · have := ih h; omega
theorem ext_bool {l : List AV} {b : Bool} {K : AV → Heap → Prop} (h : l[0]? = some (.bool b)) (hk : K (.bool b) G) : aop B E0 G K (.extract (some .bool) 0 (.const (.tuple l))) := by
  simp only [aop, opK, Opd.look, ob_some, h, extK, tyK, pBool_bool]
  cases b <;> exact hk
theorem ext_other {l : List AV} {i : Nat} {v : AV} {K : AV → Heap → Prop} (h : l[i]? = some v) (hv : v ≠ .dead) (hk : K v G) : aop B E0 G K (.extract (some .other) i (.const (.tuple l))) := by
  simp only [aop, opK, Opd.look, ob_some, h, extK, tyK]
  exact pLive_iff.2 ⟨hv, hk⟩
theorem ext_int {l : List AV} {i : Nat} {v : Int} {K : AV → Heap → Prop} (h : l[i]? = some (.int .i64 v)) (hk : K (.int .i64 v) G) : aop B E0 G K (.extract (some (.int .i64)) i (.const (.tuple l))) := by
  simp only [aop, opK, Opd.look, ob_some, h, extK, tyK, pInt_int]
  exact hk
theorem live_ptr {p : Option (Id × Nat)} {K : AV → Prop} (h : K (.ptr p)) : pLive (.ptr p) K := h
theorem live_tuple {l : List AV} {K : AV → Prop} (h : K (.tuple l)) : pLive (.tuple l) K := h
theorem live_map {p : Option Id} {K : AV → Prop} (h : K (.map p)) : pLive (.map p) K := h
theorem rowV_live (o : Option Nat) (len es : Nat) {K : AV → Prop} (h : K (rowV o len es)) : pLive (rowV o len es) K := by cases o <;> exact h
theorem rowZ_live (z o : Option Nat) (len : Nat) {K : AV → Prop} (h : K (rowZ z o len)) : pLive (rowZ z o len) K := by cases o <;> exact h
theorem RowAt.len {o : Option Nat} {es : Nat} {rows : List (List AV)} (h : RowAt G o rows) : lenOf (rowV o rows.length es) = some rows.length := by
  cases o with
  | none => have : rows = [] := h; subst this; rfl
  | some k => rfl
theorem Dk.vlen (h : Dk G d S) {f : DF} (hf : f ∈ S.fs) : lenOf f.v = some f.s.length := by
  exact (h.row f hf).len
theorem Dk.plen (h : Dk G d S) : lenOf S.pv = some S.ps.length := by
  have := h.pcs.len (es := 2)
  rwa [List.length_map] at this
theorem op_range (h : Dk G d S) {K : AV → Heap → Prop} (hk : K (.ptr (some (.new G.length, 0))) (G ++ [.iter (some (.new S.m)) S.clock [] S.clock])) : aop B E0 G K (.range (.const (.map (some (.new S.m))))) := by
  simp only [aop, opK, Opd.look, ob_some, h.mp]; exact hk

theorem f18_loop {n : Nat} (hn : n = G.length) (hH : LowH n G) (h : Dk G d S) (hb : tot S.fs ≤ 4611686018427387904) (hq : Q (.int .i64 (tot S.fs : Int)) G) : ∀ (m : Nat) (seen : List Nat) (x : Nat), (uns S.fs seen).length = m → x + tot (uns S.fs seen) = tot S.fs →
    L18_0 B (Cl B) n (x : Int) (.ptr (some (.new G.length, 0))) (G ++ [.iter (some (.new S.m)) S.clock seen S.clock]) Q := by
  intro m
  induction m with
  | zero =>
    intro seen x hm hx
    refine L18_0_in (ACall.cle B table) ?_
    have hD := h.app [.iter (some (.new S.m)) S.clock seen S.clock]
    refine next_dk hD get_app0 (fun _ => ?_) fun f hf hs => ?_
    · refine ext_bool rfl ?_
      rw [pBool_bool, if_neg (by simp)]
      refine J18_1_in ?_
      have h0 : uns S.fs seen = [] := List.eq_nil_of_length_eq_zero hm
      rw [h0] at hx
      have : x = tot S.fs := by simpa [tot] using hx
      subst this
      exact tidy_drop hn hH low_int hq
    · have h0 : uns S.fs seen = [] := List.eq_nil_of_length_eq_zero hm
      have := (uns_perm h.bns hf hs).length_eq
      rw [h0] at this; simp at this
  | succ m ih =>
    intro seen x hm hx
    refine L18_0_in (ACall.cle B table) ?_
    have hD := h.app [.iter (some (.new S.m)) S.clock seen S.clock]
    refine next_dk hD get_app0 (fun hs => ?_) fun f hf hs => ?_
    · rw [uns_nil hs] at hm; simp at hm
    · refine ext_bool rfl ?_
      rw [pBool_bool, if_pos rfl, set_app0]
      have hp := uns_perm h.bns hf hs
      have hD2 := h.app [.iter (some (.new S.m)) S.clock (seen ++ [f.born]) S.clock]
      refine entry_dk hD2 get_app0 hf ?_
      refine ext_other (v := f.ptr) rfl (by simp [DF.ptr]) ?_
      refine op_get (off := 0) (hD2.fil f hf) rfl ?_
      refine rowZ_live _ _ _ ?_
      have hv : lenOf (rowZ f.z f.o f.s.length) = some f.s.length := h.vlen hf
      rw [hv, ob_some]
      have h1 := tot_perm hp
      rw [tot_cons] at h1
      have h2 := hp.length_eq
      rw [List.length_cons] at h2
      rw [w64 (by omega), show (x : Int) + (f.s.length : Int) = ((x + f.s.length : Nat) : Int) by omega]
      exact ih (seen ++ [f.born]) (x + f.s.length) (by omega) (by omega)

theorem f18_ok (h : Dk G d S) (hb : tot S.fs ≤ 4611686018427387904) (hq : Q (.int .i64 (tot S.fs : Int)) G) : Cl B 18 [.ptr (some (.new d, 0))] G Q := by
  refine f18_in fun n cl hn hcl hH hA => ?_
  subst hcl
  refine op_get (off := 0) h.top rfl ?_
  refine live_map ?_
  refine op_range h ?_
  have hu : uns S.fs [] = S.fs := by simp [uns]
  exact f18_loop hn hH h hb hq _ [] 0 rfl (by rw [hu]; omega)

/-! ### Up, Start, New, right -/
theorem f24_ok (h : Dk G d S) (hq : Q (.bool (!S.down)) G) : Cl B 24 [.ptr (some (.new d, 0))] G Q := by
  refine f24_in fun n cl hn hcl hH hA => ?_
  refine op_get (off := 3) h.top rfl ?_
  refine tyK_bool (op_notB ?_)
  exact tidy_none hq
theorem f16_ok (h : Dk G d S) (hq : ∀ G', Nx G d S G' { S with down := false } → Q (.tuple []) G') : Cl B 16 [.ptr (some (.new d, 0))] G Q := by
  refine f16_in fun n cl hn hcl hH hA => ?_
  refine op_put (off := 3) rfl h.top (by simp) ?_
  exact tidy_none (hq _ (h.set (S' := { S with down := false }) rfl rfl rfl rfl rfl))
def rightB (x : List UInt8) : Bool := decide (1 ≤ x.length) && decide (x.length ≤ 64)
theorem f37_ok {x : List UInt8} (hq : Q (.bool (rightB x)) G) : Cl B 37 [.str x] G Q := by
  refine f37_in fun n cl hn hcl hH hA => ?_
  unfold rightB at hq
  refine bs_dec (fun h1 => ib_le (tidy_none ?_)) fun h1 => tidy_none ?_
  · rw [decide_eq_true (by omega), Bool.true_and] at hq
    rwa [show decide (((x.length : Nat) : Int) ≤ 64) = decide (x.length ≤ 64) from decide_eq_decide.2 (by omega)]
  · rwa [decide_eq_false (by omega), Bool.false_and] at hq
def newS (m : Nat) (cap : Int) : DS := ⟨m, [], 0, none, [], cap, false, 0, 0⟩
theorem f12_ok {c : Int} (hq : ∀ G' d' m', G.length ≤ d' → G.length ≤ m' → Dk G' d' (newS m' (max c 0)) → G.length ≤ G'.length → (∀ k, k < G.length → G'[k]? = G[k]?) → Q (.ptr (some (.new d', 0))) G') : Cl B 12 [.int .i64 c] G Q := by
  refine f12_in fun n cl hn hcl hH hA => ?_
  refine op_makeMap ?_
  rw [show layParts [.map none, .nils, .int .i64 0, .bool false, .int .i64 0, .int .i64 0] [(0, 1, .map (some (.new G.length))), (2, 1, .int .i64 (maxInts c [0]))] = some [.map (some (.new G.length)), .nils, .int .i64 (maxInts c [0]), .bool false, .int .i64 0, .int .i64 0] from rfl, ob_some]
  have hc : maxInts c [0] = max c 0 := by
    simp only [maxInts]; split <;> omega
  rw [hc]
  refine op_box rfl rfl (tidy_none ?_)
  refine hq _ _ G.length (by simp) (Nat.le_refl _) ?_ (by simp) fun k hk => ?_
  · refine ⟨get_app0, ?_, fun f hf => ?_, fun f hf => ?_, ?_, ?_, ?_, ?_, fun f hf => ?_, fun f g hf => ?_, fun f hf => ?_⟩
    any_goals cases hf
    · show (G ++ [.map [] 0] ++ _)[G.length]? = _
      rw [List.append_assoc, get_app0]; rfl
    · exact rfl
    · exact List.nodup_nil
    · exact List.nodup_nil
    · exact List.nodup_nil
  · rw [List.append_assoc, get_low hk]

/-! ### Clone, Read -/
/-- A slice that is none of the disk's. -/
def NotOwn (d : Nat) (S : DS) (v : AV) : Prop := ∀ k off len es cap, v = .slice (.new k) off len es cap → ¬ Own d S k
theorem f38_ok {v : AV} {s : List UInt8} (hs : Bs B G v s) (hl : s.length ≤ 140737488355328) (hq : ∀ v' L, Bs B (G ++ L) v' s → (∀ k off len es cap, v' = .slice (.new k) off len es cap → G.length ≤ k) → Q v' (G ++ L)) : Cl B 38 [v] G Q := by
  refine f38_in fun n cl hn hcl hH hA => ?_
  have hs0 := hs
  obtain ⟨h0, ⟨rfl, hr⟩ | ⟨o, off, cap, rfl, hc⟩⟩ := hs
  · refine op_isNil (b := true) rfl ?_
    rw [pBool_bool, if_pos rfl]
    have : s = [] := by simpa using hr
    subst this
    refine tidy_none ?_
    have := hq .nils [] (by rw [List.append_nil]; exact Bs.nil) (fun k off len es cap e => by cases e)
    rwa [List.append_nil] at this
  · refine op_isNil (b := false) rfl ?_
    rw [pBool_bool, if_neg (by simp)]
    rw [show layParts ([] : List AV) [] = some [] from rfl, ob_some]
    refine slK_in ?_
    by_cases hne : s = []
    · subst hne
      have e0 : AV.slice o off ([].map brw).length 1 cap = .slice o off 0 1 cap := rfl
      have hb : Bs B (G ++ [.arr []]) (.slice (.new G.length) 0 0 1 (some 0)) [] := ⟨fun r hr => (by cases hr), .inr ⟨_, _, _, rfl, cellsAt_iff'.2 ⟨[], by simp only [cellsOf, get_app0]; rfl, by simp, by simp⟩⟩⟩
      have := hq _ [.arr []] hb (fun k off len es cap e => by cases e; exact Nat.le_refl _)
      have hu : elemsOf B (G ++ [.arr []]) (.slice o off 0 1 cap) = some [] := by
        have := (hs0.pre (L := [.arr []])).elems
        simpa using this
      simp only [aop, opK, Opd.look, ob_some, lenOf, hu, List.map_nil, List.length_nil]
      rw [if_pos trivial]
      exact tidy_none this
    · have hv : AppOk B G [.arr []] 1 (.slice (.new G.length) 0 0 1 (some 0)) [] := ⟨fun r hr => (by cases hr), .inr (.inl ⟨_, _, rfl, cellsAt_iff'.2 ⟨[], by simp only [cellsOf, get_app0]; rfl, by simp, by simp⟩⟩)⟩
      refine op_appX hv (rows2 := s.map brw) (Sl.pre hs0) (by simpa using hne) (by simp [maxBytes]; omega) fun L1 hL1 _ => tidy_none ?_
      rw [List.nil_append]
      refine hq _ (L1 ++ [.arr (s.map brw).flatten]) ?_ ?_
      · refine ⟨brws_len s, .inr ⟨_, _, _, rfl, cellsAt_iff'.2 ⟨(s.map brw).flatten, ?_, ?_, ?_⟩⟩⟩
        · simp only [cellsOf, get_app]
          rw [← hL1, get_app0]; rfl
        · rw [flatten_len (brws_len s)]; omega
        · rw [List.drop_zero, ← flatten_len (brws_len s), List.take_length]
      · intro k off len es cap e
        cases e
        exact Nat.le_add_right _ _

theorem f17_ok {x : List UInt8} (h : Dk G d S) (hb : tot S.fs ≤ 140737488355328) (h6 : S.down = true → Q (.tuple [.nils, .int .i64 6]) G) (h1 : S.down = false → rightB x = false → Q (.tuple [.nils, .int .i64 1]) G)
    (h5 : S.down = false → rightB x = true → (∀ f, f ∈ S.fs → f.name ≠ x) → Q (.tuple [.nils, .int .i64 5]) G)
    (h0 : S.down = false → rightB x = true → ∀ f, f ∈ S.fs → f.name = x → ∀ v L, Bs B (G ++ L) v f.s → NotOwn d S v → Q (.tuple [v, .int .i64 0]) (G ++ L)) : Cl B 17 [.ptr (some (.new d, 0)), .str x] G Q := by
  refine f17_in fun n cl hn hcl hH hA => ?_
  subst hcl
  refine op_get (off := 0) h.top rfl (live_map ?_)
  refine op_look h (fun f hf hx => ?_) fun hno => ?_
  all_goals
    refine op_get (off := 3) h.top rfl ?_
    rw [pBool_bool]
    refine bs_iff.2 ⟨fun hd => tidy_none (h6 hd), fun hd => f37_ok ?_⟩
    rw [pBool_bool]
    refine bs_iff.2 ⟨fun hr => ?_, fun hr => tidy_none (h1 hd hr)⟩
  · refine op_isNil (b := false) rfl ?_
    rw [pBool_bool, if_neg (by simp)]
    refine op_get (off := 0) (h.fil f hf) rfl (rowZ_live _ _ _ ?_)
    refine f38_ok (h.row f hf).bs (Nat.le_trans (tot_le hf) hb) fun v L hv hk => ?_
    refine hv.live _ (tidy_none (h0 hd hr f hf hx v L hv fun k off len es cap e ho => ?_))
    have := hk k off len es cap e
    have := h.lt ho
    omega
  · refine op_isNil (b := true) rfl ?_
    rw [pBool_bool, if_pos rfl]
    exact tidy_none (h5 hd hr hno)
end
end Go.Am

/- The disk: the pieces of a file are forgotten. -/
namespace Go.Am
open Go

section
variable {B : Base} {G X : Heap} {d : Nat} {S : DS} {Q : AV → Heap → Prop}

theorem op_peq {K : AV → Heap → Prop} {k l : Nat} {c1 c2 : List AV} (h1 : X[k]? = some (.var c1)) (h2 : X[l]? = some (.var c2)) (hk : K (.bool (k == l)) X) :
    aop B E0 X K (.peq false (.const (.ptr (some (.new k, 0)))) (.const (.ptr (some (.new l, 0))))) := by
  simp only [aop, opK, Opd.look, ob_some, ptrEq, h1, h2, beq_self_eq_true, Bool.and_true]
  cases hb : (k == l) <;> (rw [hb] at hk; exact hk)
theorem op_sl1 {K : AV → Heap → Prop} {es len : Nat} {v r : AV} {b : Int} (hl : lenOf v = some len) (hs : sliceOf es v 0 b = some r) (hk : K r X) : aop B E0 X K (.sliceL es (.const v) none (some (.const (.int .i64 b))) none) := by
  simp only [aop, opK, Opd.look, ob_some, hl, optK, pAny_int, hs]; exact hk
theorem op_sl2 {K : AV → Heap → Prop} {es len : Nat} {v r : AV} {a : Int} (hl : lenOf v = some len) (hs : sliceOf es v a (len : Int) = some r) (hk : K r X) : aop B E0 X K (.sliceL es (.const v) (some (.const (.int .i64 a))) none none) := by
  simp only [aop, opK, Opd.look, ob_some, hl, optK, pAny_int, hs]; exact hk

/-- The question of drop: is the piece the file's? -/
theorem f53_ok {p : Nat × Nat} {j a : Nat} {c1 c2 : List AV} (hj : X[j]? = some (.var [.ptr (some (.new a, 0))])) (h1 : X[p.1]? = some (.var c1)) (h2 : X[a]? = some (.var c2)) (hq : Q (.bool (p.1 == a)) X) :
    Cl B 53 [.agg (prow p), .ptr (some (.new j, 0))] X Q := by
  refine f53_in fun n cl hn hcl hH hA => ?_
  refine op_box rfl rfl ?_
  refine op_fldP ?_
  rw [Nat.zero_add, peekV (c := prow p) (v := .ptr (some (.new p.1, 0))) get_app0 rfl, ob_some]
  refine live_ptr ?_
  rw [peekV (get_pre hj) rfl, ob_some]
  refine live_ptr ?_
  exact op_peq (get_pre h1) (get_pre h2) (tidy_drop hn hH low_bool hq)

/-- All that a piece's question needs. -/
structure Pq (X : Heap) (ps : List (Nat × Nat)) (j a : Nat) : Prop where
  cap : X[j]? = some (.var [.ptr (some (.new a, 0))])
  pcs : ∀ p, p ∈ ps → ∃ c, X[p.1]? = some (.var c)
  one : ∃ c, X[a]? = some (.var c)
theorem f63_loop {n : Nat} {po : Option Nat} {ps : List (Nat × Nat)} {j a : Nat} (hp : RowAt X po (ps.map prow)) (h : Pq X ps j a) (hn : ps.length ≤ 1000000000000)
    (hq1 : ∀ i p, ps[i]? = some p → p.1 = a → (∀ q, q ∈ ps.take i → q.1 ≠ a) → Q (.int .i64 (i : Int)) X) (hq2 : (∀ p, p ∈ ps → p.1 ≠ a) → Q (.int .i64 (-1)) X) :
    ∀ (m i : Nat), i + m = ps.length → (∀ q, q ∈ ps.take i → q.1 ≠ a) → L63_0 B (Cl B) n (rowV po ps.length 2) (.func (.func 53) [] [.ptr (some (.new j, 0))]) (ps.length : Int) (i : Int) X Q := by
  intro m
  induction m with
  | zero =>
    intro i hi hno
    refine L63_0_in (ACall.cle B table) ?_
    refine bs_dec (fun h1 => by omega) fun _ => J63_1_in (tidy_none (hq2 ?_))
    rw [List.take_of_length_le (by omega)] at hno
    exact hno
  | succ m ih =>
    intro i hi hno
    refine L63_0_in (ACall.cle B table) ?_
    refine bs_dec (fun _ => ?_) fun h1 => by omega
    have hs := hp.sl (B := B) (prow_len ps)
    rw [List.length_map] at hs
    have hpi : ps[i]? = some ps[i] := List.getElem?_eq_getElem (by omega)
    have hr : (ps.map prow)[i]? = some (prow ps[i]) := by rw [List.getElem?_map, hpi]; rfl
    refine op_idx hs (by rw [List.length_map]; omega) ?_
    rw [(hs.el hr).peekN (n := 2) rfl, ob_some]
    obtain ⟨c1, hc1⟩ := h.pcs ps[i] (List.getElem_mem _)
    obtain ⟨c2, hc2⟩ := h.one
    refine f53_ok h.cap hc1 hc2 ?_
    rw [pBool_bool]
    refine bs_iff.2 ⟨fun e => tidy_none (hq1 i _ hpi (by simpa using e) hno), fun e => ?_⟩
    rw [w64 (by omega), show (i : Int) + 1 = ((i + 1 : Nat) : Int) by omega]
    refine ih (i + 1) (by omega) fun q hq => ?_
    rw [List.take_add_one, hpi] at hq
    rcases List.mem_append.1 hq with hq | hq
    · exact hno q hq
    · have : q = ps[i] := by simpa using hq
      subst this
      simpa using e
theorem f63_ok {po : Option Nat} {ps : List (Nat × Nat)} {j a : Nat} (hp : RowAt X po (ps.map prow)) (h : Pq X ps j a) (hn : ps.length ≤ 1000000000000)
    (hq1 : ∀ i p, ps[i]? = some p → p.1 = a → (∀ q, q ∈ ps.take i → q.1 ≠ a) → Q (.int .i64 (i : Int)) X) (hq2 : (∀ p, p ∈ ps → p.1 ≠ a) → Q (.int .i64 (-1)) X) :
    Cl B 63 [rowV po ps.length 2, .func (.func 53) [] [.ptr (some (.new j, 0))]] X Q := by
  refine f63_in fun n cl hn' hcl hH hA => ?_
  subst hcl
  have := hp.len (es := 2)
  rw [List.length_map] at this
  rw [this, ob_some]
  exact f63_loop hp h hn hq1 hq2 _ 0 (Nat.zero_add _) fun q hq => by simp at hq

theorem putAt_rows {es : Nat} {t : List AV} : ∀ {rows : List (List AV)} {k : Nat} {row : List AV}, (∀ r, r ∈ rows → r.length = es) → row.length = es → k < rows.length → putAt (rows.flatten ++ t) (k * es) row = (rows.set k row).flatten ++ t
  | [], k, row, _, _, h => by simp at h
  | r :: rs, 0, row, hl, hr, _ => by
    have h0 := hl r (List.mem_cons_self ..)
    simp only [putAt, Nat.zero_mul, List.take_zero, List.nil_append, Nat.zero_add, List.set_cons_zero, List.flatten_cons, List.append_assoc]
    rw [List.drop_left' (by omega)]
  | r :: rs, k + 1, row, hl, hr, h => by
    have h0 := hl r (List.mem_cons_self ..)
    have ih := putAt_rows (t := t) (rows := rs) (k := k) (fun x hx => hl x (List.mem_cons_of_mem _ hx)) hr (by simpa using h)
    simp only [putAt, List.set_cons_succ, List.flatten_cons, List.append_assoc] at ih ⊢
    rw [← ih]
    have e1 : (k + 1) * es = r.length + k * es := by rw [h0, Nat.add_mul]; omega
    rw [e1, List.take_append, List.take_of_length_le (by omega), show r.length + k * es - r.length = k * es by omega]
    rw [show r.length + k * es + row.length = r.length + (k * es + row.length) by omega, List.drop_append, List.drop_of_length_le (by omega), show r.length + (k * es + row.length) - r.length = k * es + row.length by omega]
    simp

def notOf (a : Nat) (p : Nat × Nat) : Bool := !(p.1 == a)

/-- What stands behind a piece that was looked at: the first i are those that are kept, from the j-th on they are as they were. -/
structure Del (X Y : Heap) (k : Nat) (ps R : List (Nat × Nat)) (a i j : Nat) : Prop where
  le : X.length ≤ Y.length
  oth : ∀ q, q < X.length → q ≠ k → Y[q]? = X[q]?
  arr : ∃ t, Y[k]? = some (.arr ((R.map prow).flatten ++ t))
  len : R.length = ps.length
  tk : R.take i = (ps.take j).filter (notOf a)
  dr : R.drop j = ps.drop j
  ij : i < j
  jn : j ≤ ps.length

theorem Pq.del {X Y : Heap} {k : Nat} {ps R : List (Nat × Nat)} {a i j c : Nat} {cc : List AV} (hk : X[k]? = some (.arr cc)) (h : Pq X ps c a) (e : Del X Y k ps R a i j) : Pq Y ps c a := by
  have key : ∀ {q : Nat} {l : List AV}, X[q]? = some (.var l) → Y[q]? = some (.var l) := fun hq => (e.oth _ (lt_of_get hq) (get_ne hq hk (by simp))).trans hq
  refine ⟨key h.cap, fun p hp => ?_, ?_⟩
  · obtain ⟨l, hl⟩ := h.pcs p hp; exact ⟨l, key hl⟩
  · obtain ⟨l, hl⟩ := h.one; exact ⟨l, key hl⟩

theorem f52_loop {n : Nat} {k : Nat} {ps : List (Nat × Nat)} {c a : Nat} {cc : List AV} (hk : X[k]? = some (.arr cc)) (h : Pq X ps c a) (hn : ps.length ≤ 1000000000000)
    (hq : ∀ Y, X.length ≤ Y.length → (∀ q, q < X.length → q ≠ k → Y[q]? = X[q]?) → RowAt Y (some k) ((ps.filter (notOf a)).map prow) → Q (rowV (some k) (ps.filter (notOf a)).length 2) Y) :
    ∀ (m j : Nat) (Y : Heap) (R : List (Nat × Nat)) (i : Nat), j + m = ps.length → Del X Y k ps R a i j → L52_4 B (Cl B) n (rowV (some k) ps.length 2) (.func (.func 53) [] [.ptr (some (.new c, 0))]) (i : Int) (j : Int) Y Q := by
  intro m
  induction m with
  | zero =>
    intro j Y R i hj e
    refine L52_4_in (ACall.cle B table) ?_
    show ob (some ps.length) _
    rw [ob_some]
    refine bs_dec (fun h1 => by omega) fun _ => J52_5_in ?_
    have hi := e.ij
    have hil : i ≤ ps.length := by have := e.jn; omega
    have h1 : sliceOf 2 (rowV (some k) ps.length 2) (i : Int) (ps.length : Int) = some (.slice (.new k) (i * 2) (ps.length - i) 2 none) := by
      simp only [rowV, sliceOf]
      rw [if_pos ⟨trivial, by omega, by omega, by omega⟩]
      simp
    refine op_sl2 (len := ps.length) rfl h1 ?_
    obtain ⟨t, ht⟩ := e.arr
    have hfl : (R.map prow).flatten.length = ps.length * 2 := by rw [flatten_len (prow_len R), List.length_map, e.len]
    have hps : ps.take j = ps := List.take_of_length_le (by omega)
    have htk := e.tk
    rw [hps] at htk
    have hlen : (ps.filter (notOf a)).length = i := by
      rw [← htk, List.length_take, e.len]; omega
    have hpre : ((R.map prow).flatten ++ t).take (i * 2) = ((ps.filter (notOf a)).map prow).flatten := by
      have h2 : R.map prow = (R.take i).map prow ++ (R.drop i).map prow := by rw [← List.map_append, List.take_append_drop]
      rw [h2, List.flatten_append, List.append_assoc, htk]
      refine List.take_left' ?_
      rw [flatten_len (prow_len _), List.length_map, hlen]
    have fin : ∀ Y', X.length ≤ Y'.length → (∀ q, q < X.length → q ≠ k → Y'[q]? = X[q]?) → RowAt Y' (some k) ((ps.filter (notOf a)).map prow) →
        aop B E0 Y' (fun v14 _ => tidyK n Q v14 Y') (.sliceL 2 (.const (rowV (some k) ps.length 2)) none (some (.const (.int .i64 (i : Int)))) none) := fun Y' hle ho hr => by
      refine op_sl1 (len := ps.length) (r := rowV (some k) i 2) rfl ?_ (tidy_none ?_)
      · simp only [rowV, sliceOf]
        rw [if_pos ⟨trivial, by omega, by omega, by omega⟩]
        simp
      · have := hq Y' hle ho hr
        rwa [hlen] at this
    simp only [aop, opK, Opd.look, ob_some, if_true]
    by_cases h0 : ps.length - i = 0
    · rw [if_pos h0]
      refine fin Y e.le e.oth ⟨t, ?_⟩
      have : ((ps.filter (notOf a)).map prow).flatten = (R.map prow).flatten := by
        rw [← hpre, List.take_append_of_le_length (by omega), List.take_of_length_le (by omega)]
      rw [this]; exact ht
    · rw [if_neg h0]
      have hpk : pokeAt Y (.new k) (i * 2) (List.replicate (ps.length - i) [.ptr none, .int .i64 0]).flatten = some (Y.set k (.arr (putAt ((R.map prow).flatten ++ t) (i * 2) (List.replicate (ps.length - i) [.ptr none, .int .i64 0]).flatten))) := by
        simp only [pokeAt, ht]
        rw [if_pos]
        rw [flatten_len (es := 2) (fun r hr => by rw [List.eq_of_mem_replicate hr]; rfl), List.length_replicate, List.length_append, hfl]
        omega
      rw [hpk, ob_some]
      have hkl := lt_of_get ht
      refine fin _ (by simpa using e.le) (fun q hq hne => by rw [get_set_ne (Ne.symm hne)]; exact e.oth q hq hne) ?_
      refine ⟨(List.replicate (ps.length - i) [.ptr none, .int .i64 0]).flatten ++ ((R.map prow).flatten ++ t).drop (i * 2 + (List.replicate (ps.length - i) [AV.ptr none, .int .i64 0]).flatten.length), ?_⟩
      rw [get_set hkl, putAt, hpre, List.append_assoc]
  | succ m ih =>
    intro j Y R i hj e
    refine L52_4_in (ACall.cle B table) ?_
    show ob (some ps.length) _
    rw [ob_some]
    refine bs_dec (fun _ => J52_3_in ?_) fun h1 => by omega
    obtain ⟨t, ht⟩ := e.arr
    have hi := e.ij
    have hrw : RowAt Y (some k) (R.map prow) := ⟨t, ht⟩
    have hs := hrw.sl (B := B) (prow_len R)
    rw [List.length_map, e.len] at hs
    have hpj : ps[j]? = some ps[j] := List.getElem?_eq_getElem (by omega)
    have hRj : R[j]? = some ps[j] := by
      have h1 : (R.drop j)[0]? = (ps.drop j)[0]? := by rw [e.dr]
      rw [List.getElem?_drop, List.getElem?_drop] at h1
      simpa [hpj] using h1
    have hr : (R.map prow)[j]? = some (prow ps[j]) := by rw [List.getElem?_map, hRj]; rfl
    refine op_idx hs (by rw [List.length_map, e.len]; omega) ?_
    rw [(hs.el hr).peekN (n := 2) rfl, ob_some]
    refine op_alloc (op_st_last rfl rfl ?_)
    refine J52_1_in ?_
    have hnew : (Y ++ [.var (prow ps[j])])[Y.length]? = some (.var (prow ps[j])) := get_app0
    rw [peekVN (n := 2) hnew rfl, ob_some]
    have eY : Del X (Y ++ [.var (prow ps[j])]) k ps R a i j := ⟨by have := e.le; simp; omega, fun q hq hne => by rw [get_low (Nat.lt_of_lt_of_le hq e.le)]; exact e.oth q hq hne, ⟨t, get_pre ht⟩, e.len, e.tk, e.dr, e.ij, e.jn⟩
    have hP := h.del hk eY
    obtain ⟨c1, hc1⟩ := hP.pcs ps[j] (List.getElem_mem _)
    obtain ⟨c2, hc2⟩ := hP.one
    refine f53_ok hP.cap hc1 hc2 ?_
    refine tyK_bool (op_notB (J52_0_in ?_))
    rw [pBool_bool]
    have htj : ps.take (j + 1) = ps.take j ++ [ps[j]] := by rw [List.take_add_one, hpj]; rfl
    have hdj : R.drop (j + 1) = ps.drop (j + 1) := by
      have := congrArg (List.drop 1) e.dr
      rwa [List.drop_drop, List.drop_drop] at this
    by_cases hb : ps[j].1 = a
    · have h1 : (ps[j].1 == a) = true := by simpa using hb
      rw [h1, if_neg (by simp)]
      refine J52_2_in ?_
      rw [w64 (by omega), show (j : Int) + 1 = ((j + 1 : Nat) : Int) by omega]
      refine ih (j + 1) _ R i (by omega) ⟨eY.le, eY.oth, eY.arr, e.len, ?_, hdj, by omega, by omega⟩
      rw [htj, List.filter_append, e.tk]
      simp [notOf, hb]
    · have h1 : (ps[j].1 == a) = false := by simpa using hb
      rw [h1, if_pos (show (!false) = true from rfl), peekVN (n := 2) hnew rfl, ob_some]
      have hs2 := Sl.pre (L := [.var (prow ps[j])]) hs
      refine op_idx hs2 (by rw [List.length_map, e.len]; omega) ?_
      have hpt : ept 2 (rowV (some k) ps.length 2) i = .ptr (some (.new k, i * 2)) := by simp [ept, rowV]
      rw [hpt]
      have hRl := e.len
      refine op_st_arr (vs := prow ps[j]) rfl rfl (get_pre ht) ?_ ?_
      · rw [List.length_append, flatten_len (prow_len R), List.length_map, e.len]; omega
      rw [putAt_rows (prow_len R) rfl (by rw [List.length_map, e.len]; omega)]
      refine J52_2_in ?_
      rw [w64 (by omega), w64 (by omega), show (j : Int) + 1 = ((j + 1 : Nat) : Int) by omega, show (i : Int) + 1 = ((i + 1 : Nat) : Int) by omega]
      have hkl := lt_of_get (get_pre (L := [.var (prow ps[j])]) ht)
      refine ih (j + 1) _ (R.set i ps[j]) (i + 1) (by omega) ⟨by have := eY.le; simpa using this, fun q hq hne => by rw [get_set_ne (Ne.symm hne)]; exact eY.oth q hq hne, ⟨t, ?_⟩, by simpa using e.len, ?_, ?_, by omega, by omega⟩
      · rw [get_set hkl, List.map_set]
      · rw [htj, List.filter_append, ← e.tk]
        have h2 : (R.set i ps[j])[i]? = some ps[j] := by rw [List.getElem?_set]; simp; omega
        rw [List.take_add_one, h2, List.take_set_of_le (Nat.le_refl _)]
        have h3 : notOf a ps[j] = true := by simp [notOf, hb]
        rw [List.filter_cons_of_pos h3]; rfl
      · rw [List.drop_set_of_lt (by omega)]
        exact hdj

theorem f52_ok {po : Option Nat} {ps : List (Nat × Nat)} {c a : Nat} (hp : RowAt X po (ps.map prow)) (h : Pq X ps c a) (hn : ps.length ≤ 1000000000000)
    (hq : ∀ Y, X.length ≤ Y.length → (∀ q, q < X.length → po ≠ some q → Y[q]? = X[q]?) → RowAt Y po ((ps.filter (notOf a)).map prow) → Q (rowV po (ps.filter (notOf a)).length 2) Y) :
    Cl B 52 [rowV po ps.length 2, .func (.func 53) [] [.ptr (some (.new c, 0))]] X Q := by
  refine f52_in fun n cl hn' hcl hH hA => J52_8_in ?_
  subst hcl
  refine f63_ok hp h hn (fun i p hi ha hno => ?_) fun hno => ?_
  · rw [pInt_int]
    refine J52_7_in (bs_of false (by simp) (fun e => by cases e) fun _ => J52_6_in ?_)
    have hil : i < ps.length := (List.getElem?_eq_some_iff.1 hi).1
    rw [w64 (by omega), show (i : Int) + 1 = ((i + 1 : Nat) : Int) by omega]
    cases po with
    | none =>
      have : ps = [] := by simpa using (show ps.map prow = [] from hp)
      subst this; simp at hil
    | some k =>
      obtain ⟨t, ht⟩ := hp
      refine f52_loop ht h hn (fun Y hle ho hr => hq Y hle (fun q hq' hne => ho q hq' fun e => hne (by rw [e])) hr) (ps.length - (i + 1)) (i + 1) X ps i (by omega) ⟨Nat.le_refl _, fun _ _ _ => rfl, ⟨t, ht⟩, rfl, ?_, rfl, by omega, by omega⟩
      rw [List.take_add_one, hi, List.filter_append]
      have h1 : (ps.take i).filter (notOf a) = ps.take i := List.filter_eq_self.2 fun q hq => by simp [notOf, hno q hq]
      rw [h1]
      simp [notOf, ha]
  · rw [pInt_int]
    refine J52_7_in (bs_of true (by simp) (fun _ => tidy_none ?_) fun e => by cases e)
    have h1 : ps.filter (notOf a) = ps := List.filter_eq_self.2 fun q hq => by simp [notOf, hno q hq]
    rw [h1] at hq
    exact hq X (Nat.le_refl _) (fun _ _ _ => rfl) hp

/-- The disk forgets a file's pieces. -/
theorem f39_ok (h : Dk G d S) (hpin : ∀ p, p ∈ S.ps → ∃ f, f ∈ S.fs ∧ f.a = p.1) (hn : S.ps.length ≤ 1000000000000) {f : DF} (hf : f ∈ S.fs) (hq : ∀ G', Nx G d S G' { S with ps := S.ps.filter (notOf f.a) } → Q (.tuple []) G') :
    Cl B 39 [.ptr (some (.new d, 0)), .ptr (some (.new f.a, 0))] G Q := by
  refine f39_in fun n cl hn' hcl hH hA => ?_
  subst hcl
  refine op_box rfl rfl ?_
  refine op_get (off := 1) (get_pre h.top) rfl (rowV_live _ _ _ ?_)
  have hD := h.app [.var [.ptr (some (.new f.a, 0))]]
  have hP : Pq (G ++ [.var [.ptr (some (.new f.a, 0))]]) S.ps G.length f.a := ⟨get_app0, fun p hp => by
    obtain ⟨g, hg, e⟩ := hpin p hp
    exact ⟨_, by rw [← e]; exact hD.fil g hg⟩, ⟨_, hD.fil f hf⟩⟩
  refine f52_ok hD.pcs hP hn fun Y hle ho hr => rowV_live _ _ _ ?_
  have hd : Y[d]? = some S.obj := by
    refine (ho d (lt_of_get hD.top) fun e => ?_).trans hD.top
    obtain ⟨c, hc⟩ := hD.pcs_get e
    have := hD.top
    rw [hc] at this; simp [DS.obj] at this
  refine op_put (off := 1) (v := rowV S.po (S.ps.filter (notOf f.a)).length 2) (by cases S.po <;> rfl) hd (by simp) (tidy_none ?_)
  have hdl := lt_of_get hd
  refine hq _ (h.head rfl rfl rfl ?_ (fun k hk hne hpo => ?_) (get_set hdl) ?_ fun k hk => .inl hk)
  · simp only [List.length_append, List.length_singleton] at hle
    simp; omega
  · rw [get_set_ne (Ne.symm hne), ho k (by simp; omega) hpo, get_low hk]
  · refine hr.keep fun k e => get_set_ne ?_
    obtain ⟨c, hc⟩ := h.pcs_get e
    exact get_ne h.top hc (by simp [DS.obj])
end
end Go.Am

/- The disk: Crash. -/
namespace Go.Am
open Go

def kp (k : Int) (n : Nat) : Nat := min k.toNat n
def kept : List (Nat × Nat) → Int → Nat → Nat
  | [], _, _ => 0
  | p :: r, k, x => (if p.1 = x then kp k p.2 else 0) + kept r (k - kp k p.2) x
def psum : List (Nat × Nat) → Nat → Nat
  | [], _ => 0
  | p :: r, x => (if p.1 = x then p.2 else 0) + psum r x
theorem kp_le (k : Int) (n : Nat) : kp k n ≤ n := Nat.min_le_right _ _
theorem kept_le : ∀ (ps : List (Nat × Nat)) (k : Int) (x : Nat), kept ps k x ≤ psum ps x
  | [], _, _ => Nat.le_refl _
  | p :: r, k, x => by
    have := kept_le r (k - kp k p.2) x
    have := kp_le k p.2
    simp only [kept, psum]; split <;> omega
theorem kp_min (k : Int) (n : Nat) : minInts (maxInts k [0]) [(n : Int)] = (kp k n : Int) := by
  simp only [maxInts, minInts, kp]
  split <;> split <;> omega
def bumpF (ps : List (Nat × Nat)) (k : Int) (f : DF) : DF := { f with syn := f.syn + kept ps k f.a }
def trunc (f : DF) : DF := { f with s := f.s.take f.syn }
def trF (seen : List Nat) (f : DF) : DF := if seen.contains f.born then trunc f else f
def crash (S : DS) (k : Int) : DS := { S with fs := S.fs.map fun f => trunc (bumpF S.ps k f), ps := [], po := none, down := true, armed := 0 }

structure Wf (S : DS) : Prop where
  pin : ∀ p, p ∈ S.ps → ∃ f, f ∈ S.fs ∧ f.a = p.1
  syl : ∀ f, f ∈ S.fs → f.s.length = f.syn + psum S.ps f.a
  big : tot S.fs ≤ 70368744177664
  psl : S.ps.length ≤ 1000000
  cap0 : 0 ≤ S.cap ∧ S.cap ≤ 9223372036854775807
  arm : -9223372036854775808 ≤ S.armed ∧ S.armed ≤ 9223372036854775807
  kpr : -9223372036854775808 ≤ S.keep ∧ S.keep ≤ 9223372036854775807

section
variable {B : Base} {G X Y : Heap} {d : Nat} {S : DS} {Q : AV → Heap → Prop}

theorem bump_cons {fs : List DF} (ha : (fs.map DF.a).Nodup) {f : DF} (hf : f ∈ fs) {p : Nat × Nat} (hp : f.a = p.1) (r : List (Nat × Nat)) (k : Int) :
    (fs.map (updF f.a { f with syn := f.syn + kp k p.2 })).map (bumpF r (k - kp k p.2)) = fs.map (bumpF (p :: r) k) := by
  rw [List.map_map]
  refine List.map_congr_left fun g hg => ?_
  simp only [Function.comp, updF]
  split
  · rename_i e
    have := ads_eq ha hg hf e
    subst this
    simp only [bumpF, kept, hp, if_true, Nat.add_assoc]
  · rename_i e
    have : ¬ p.1 = g.a := fun e' => e (by rw [← e', hp])
    simp only [bumpF, kept, if_neg this, Nat.zero_add]

theorem f15_loop1 {n : Nat} (hps : S.ps.length ≤ 1000000) : ∀ (r : List (Nat × Nat)) (j : Nat) (k : Int) (fs1 : List DF) (Y : Heap), S.ps.drop j = r → Nx G d S Y { S with fs := fs1 } → (∀ p, p ∈ r → ∃ f, f ∈ fs1 ∧ f.a = p.1) →
    (∀ f, f ∈ fs1 → f.syn + psum r f.a ≤ f.s.length) → tot fs1 ≤ 70368744177664 → (-9223372036854775808 ≤ k ∧ k ≤ 9223372036854775807) → (∀ Y', Nx G d S Y' { S with fs := fs1.map (bumpF r k) } → J15_9 B (Cl B) n (.ptr (some (.new d, 0))) Y' Q) →
    L15_4 B (Cl B) n (.ptr (some (.new d, 0))) k S.pv (S.ps.length : Int) (j : Int) Y Q := by
  intro r
  induction r with
  | nil =>
    intro j k fs1 Y hj h _ _ _ _ hq
    have hjl := drop_nil hj
    refine L15_4_in (ACall.cle B table) (ib_lt_no (by omega) (J15_3_in ?_))
    rw [pBool_bool, if_neg (by simp)]
    refine hq Y ?_
    have : fs1.map (bumpF [] k) = fs1 := by
      have : bumpF [] k = id := by funext f; simp [bumpF, kept]
      rw [this, List.map_id]
    rw [this]; exact h
  | cons p r ih =>
    intro j k fs1 Y hj h hpin hsyl htot hk hq
    obtain ⟨hp1, hp2, hp3⟩ := drop_cons hj
    refine L15_4_in (ACall.cle B table) (ib_lt_yes (by omega) (J15_3_in ?_))
    rw [pBool_bool, if_pos rfl]
    have hs := h.dk.pcs.sl (B := B) (prow_len S.ps)
    rw [List.length_map] at hs
    have hr : (S.ps.map prow)[j]? = some (prow p) := by rw [List.getElem?_map, hp1]; rfl
    refine op_idx hs (by rw [List.length_map]; omega) ?_
    have hel := (hs.el hr).peekN (n := 2) rfl
    rw [show DS.pv S = rowV S.po S.ps.length 2 from rfl, hel, ob_some]
    refine op_alloc (op_st_last rfl rfl ?_)
    have h1 := h.trans (Nx.app h.dk [.var (prow p)])
    have hnew : (Y ++ [.var (prow p)])[Y.length]? = some (.var (prow p)) := get_app0
    refine J15_2_in (op_fldP ?_)
    rw [Nat.zero_add, peekV hnew (v := .int .i64 (p.2 : Int)) rfl, ob_some, pInt_int, kp_min]
    obtain ⟨f, hf, hfa⟩ := hpin p (List.mem_cons_self ..)
    refine J15_1_in (op_fldP ?_)
    rw [Nat.zero_add, peekV hnew (v := .ptr (some (.new p.1, 0))) rfl, ob_some]
    refine live_ptr ?_
    rw [← hfa]
    have hfo := h1.dk.fil f hf
    refine op_get (off := 1) hfo rfl ?_
    rw [pInt_int]
    have hsy := hsyl f hf
    have hsl := tot_le hf
    simp only [psum, if_pos hfa.symm] at hsy
    have hkl := kp_le k p.2
    refine op_put (off := 1) (v := .int .i64 (IntKind.i64.wrap ((f.syn : Int) + (kp k p.2 : Int)))) rfl hfo (by simp) ?_
    rw [w64 (by omega), show (f.syn : Int) + (kp k p.2 : Int) = ((f.syn + kp k p.2 : Nat) : Int) by omega]
    have h2 := h1.trans (h1.dk.file (f' := { f with syn := f.syn + kp k p.2 }) (G' := (Y ++ [AObj.var (prow p)]).set f.a (.var [f.v, .int .i64 ((f.syn + kp k p.2 : Nat) : Int)])) hf rfl rfl rfl (by simp) (fun q hq hne _ => get_set_ne (Ne.symm hne)) (get_set (lt_of_get hfo)) ((h1.dk.row f hf).keep fun q e => get_set_ne (by
      obtain ⟨c, hc⟩ := h1.dk.row_get hf e
      exact get_ne hfo hc (by simp [DF.obj]))) fun q e => .inl e)
    have hkk : (kp k p.2 : Int) ≤ max k 0 := by unfold kp; omega
    refine J15_0_in ?_
    rw [w64 (by omega), w64 (by omega), show (j : Int) + 1 = ((j + 1 : Nat) : Int) by omega]
    have hmap : (fs1.map (updF f.a { f with syn := f.syn + kp k p.2 })).map DF.a = fs1.map DF.a := updF_map h.dk.ads hf DF.a rfl
    refine ih (j + 1) (k - kp k p.2) _ _ hp3 h2 (fun q hq' => ?_) (fun g hg => ?_) ?_ ⟨by omega, by omega⟩ fun Y' hY => hq Y' ?_
    · obtain ⟨g, hg, e⟩ := hpin q (List.mem_cons_of_mem _ hq')
      have : g.a ∈ fs1.map DF.a := List.mem_map.2 ⟨g, hg, rfl⟩
      rw [← hmap] at this
      obtain ⟨g', hg', e'⟩ := List.mem_map.1 this
      exact ⟨g', hg', by rw [e', e]⟩
    · rcases updF_mem hg with rfl | ⟨hg, hne⟩
      · show f.syn + kp k p.2 + psum r f.a ≤ f.s.length
        omega
      · have := hsyl g hg
        simp only [psum] at this
        omega
    · have : tot (fs1.map (updF f.a { f with syn := f.syn + kp k p.2 })) = tot fs1 := by
        exact congrArg List.sum (updF_map (fs := fs1) (f' := { f with syn := f.syn + kp k p.2 }) h.dk.ads hf (fun f => f.s.length) rfl)
      rw [this]; exact htot
    · rw [bump_cons h.dk.ads hf hfa] at hY
      exact hY

theorem trF_a (seen : List Nat) (f : DF) : (trF seen f).a = f.a := by unfold trF; split <;> rfl
theorem trF_born (seen : List Nat) (f : DF) : (trF seen f).born = f.born := by unfold trF; split <;> rfl
theorem trF_step {fs : List DF} {seen : List Nat} (ha : (fs.map DF.a).Nodup) (hb : (fs.map DF.born).Nodup) {f : DF} (hf : f ∈ fs) (hs : f.born ∉ seen) :
    (fs.map (trF seen)).map (updF f.a (trunc f)) = fs.map (trF (seen ++ [f.born])) := by
  rw [List.map_map]
  refine List.map_congr_left fun g hg => ?_
  simp only [Function.comp, updF, trF_a]
  split
  · rename_i e
    have := ads_eq ha hg hf e
    subst this
    simp [trF]
  · rename_i e
    have h1 : g.born ≠ f.born := by
      intro e'
      have key : ∀ {l : List DF}, (l.map DF.born).Nodup → g ∈ l → f ∈ l → g = f := fun {l} => by
        induction l with
        | nil => intro _ h; cases h
        | cons x r ih =>
          intro hn h1 h2
          simp only [List.map_cons, List.nodup_cons] at hn
          rcases List.mem_cons.1 h1 with e1 | h1 <;> rcases List.mem_cons.1 h2 with e2 | h2
          · rw [e1, e2]
          · exact absurd (List.mem_map.2 ⟨f, h2, by rw [← e', e1]⟩) hn.1
          · exact absurd (List.mem_map.2 ⟨g, h1, by rw [e', e2]⟩) hn.1
          · exact ih hn.2 h1 h2
      exact e (by rw [key hb hg hf])
    have h2 : (seen ++ [f.born]).contains g.born = seen.contains g.born := by rw [Bool.eq_iff_iff]; simp [h1]
    simp only [trF, h2]

theorem take_row {o : Option Nat} {s : List UInt8} {n : Nat} (h : RowAt G o (s.map brw)) (hn : n ≤ s.length) : sliceOf 1 (rowV o s.length 1) 0 (n : Int) = some (rowV o (s.take n).length 1) := by
  rw [List.length_take, Nat.min_eq_left hn]
  cases o with
  | none =>
    have : s = [] := by simpa using (show s.map brw = [] from h)
    subst this
    have : n = 0 := by simpa using hn
    subst this; rfl
  | some k =>
    simp only [rowV, sliceOf]
    rw [if_pos ⟨trivial, by omega, by omega, by omega⟩]
    simp

theorem take_file {z o : Option Nat} {s : List UInt8} {n : Nat} (h : FileAt G z o s) (hn : n ≤ s.length) : sliceOf 1 (rowZ z o s.length) 0 (n : Int) = some (rowZ z o (s.take n).length) := by
  cases o with
  | none => exact take_row h.1 hn
  | some k =>
    rw [List.length_take, Nat.min_eq_left hn]
    rcases h.2 with rfl | ⟨rfl, rfl⟩
    · simp only [rowZ, sliceOf]
      rw [if_pos ⟨trivial, by omega, by omega, by omega⟩]
      simp
    · have : n = 0 := by simpa using hn
      subst this
      simp [rowZ, sliceOf]

theorem f15_loop2 {n : Nat} {fs2 : List DF} {r : Nat} (hG : G.length ≤ r) (hsy : ∀ f, f ∈ fs2 → f.syn ≤ f.s.length) (hq : ∀ Y', Nx G d S Y' { S with fs := fs2.map trunc } → J15_8 B (Cl B) n (.ptr (some (.new d, 0))) Y' Q) :
    ∀ (m : Nat) (seen : List Nat) (Y : Heap), (uns fs2 seen).length = m → (fs2.map DF.a).Nodup → (fs2.map DF.born).Nodup → Nx G d S Y { S with fs := fs2.map (trF seen) } → Y[r]? = some (.iter (some (.new S.m)) S.clock seen S.clock) →
    L15_7 B (Cl B) n (.ptr (some (.new d, 0))) (.ptr (some (.new r, 0))) Y Q := by
  intro m
  induction m with
  | zero =>
    intro seen Y hm hna hnb h hr
    refine L15_7_in (ACall.cle B table) ?_
    have hu : uns fs2 seen = [] := List.eq_nil_of_length_eq_zero hm
    have hall : ∀ f, f ∈ fs2 → f.born ∈ seen := fun f hf => by
      unfold uns at hu
      rw [List.filter_eq_nil_iff] at hu
      simpa using hu f hf
    refine next_dk h.dk hr (fun _ => ?_) fun f hf hs => ?_
    · refine ext_bool rfl (J15_6_n (hq Y ?_))
      have : fs2.map (trF seen) = fs2.map trunc := List.map_congr_left fun f hf => by
        have : seen.contains f.born = true := by simpa using hall f hf
        simp [trF, hall f hf]
      rw [← this]; exact h
    · obtain ⟨g, hg, rfl⟩ := List.mem_map.1 hf
      rw [trF_born] at hs
      exact absurd (hall g hg) hs
  | succ m ih =>
    intro seen Y hm hna hnb h hr
    refine L15_7_in (ACall.cle B table) ?_
    refine next_dk h.dk hr (fun hall => ?_) fun f' hf' hs => ?_
    · have : uns fs2 seen = [] := uns_nil fun f hf => by
        have := hall (trF seen f) (List.mem_map.2 ⟨f, hf, rfl⟩)
        rwa [trF_born] at this
      rw [this] at hm; simp at hm
    · obtain ⟨f, hf, rfl⟩ := List.mem_map.1 hf'
      rw [trF_born] at hs
      have e1 : trF seen f = f := by simp [trF, hs]
      rw [e1] at hf' ⊢
      have hrl := lt_of_get hr
      have hro : ¬ Own d { S with fs := fs2.map (trF seen) } r := fun ho => by
        rcases ho with e | e | ⟨g, hg, e | e⟩ | e
        · exact get_ne hr h.dk.top (by simp [DS.obj]) e
        · exact get_ne hr h.dk.mp (by simp) e
        · exact get_ne hr (h.dk.fil g hg) (by simp [DF.obj]) e
        · obtain ⟨c, hc⟩ := h.dk.row_get hg e; exact get_ne hr hc (by simp) rfl
        · obtain ⟨c, hc⟩ := h.dk.pcs_get e; exact get_ne hr hc (by simp) rfl
      have h1 : Nx G d S (Y.set r (.iter (some (.new S.m)) S.clock (seen ++ [f.born]) S.clock)) { S with fs := fs2.map (trF seen) } := ⟨h.dk.other hro, by have := h.fr.le; simpa using this, fun q hq hno => by rw [get_set_ne (by omega)]; exact h.fr.same q hq hno, h.fr.own⟩
      have hr1 : (Y.set r (.iter (some (.new S.m)) S.clock (seen ++ [f.born]) S.clock))[r]? = some (.iter (some (.new S.m)) S.clock (seen ++ [f.born]) S.clock) := get_set hrl
      refine ext_bool rfl (J15_6_y (entry_dk h1.dk hr1 hf' ?_))
      refine ext_other (v := f.ptr) rfl (by simp [DF.ptr]) (J15_5_in ?_)
      have hfo := h1.dk.fil f hf'
      refine op_get (off := 0) hfo rfl (rowZ_live _ _ _ ?_)
      refine op_get (off := 1) hfo rfl ?_
      rw [pInt_int]
      have hlen := h1.dk.vlen hf'
      have hrow := h1.dk.row f hf'
      refine op_sl1 (len := f.s.length) hlen (take_file hrow (hsy f hf)) ?_
      refine op_put (off := 0) (by cases f.o <;> rfl) hfo (by simp) ?_
      have h2 := h1.trans (h1.dk.file (f' := trunc f) (G' := (Y.set r (.iter (some (.new S.m)) S.clock (seen ++ [f.born]) S.clock)).set f.a (.var [rowZ f.z f.o (f.s.take f.syn).length, .int .i64 (f.syn : Int)])) hf' rfl rfl rfl (by simp) (fun q hq hne _ => get_set_ne (Ne.symm hne)) (get_set (lt_of_get hfo)) ((hrow.bsTake f.syn).keep fun q e => get_set_ne (by
        obtain ⟨c, hc⟩ := h1.dk.row_get hf' e
        exact get_ne hfo hc (by simp [DF.obj]))) fun q e => .inl e)
      simp only [trF_step hna hnb hf hs] at h2
      refine ih (seen ++ [f.born]) _ ?_ hna hnb h2 ?_
      · have := (uns_perm hnb hf hs).length_eq
        rw [List.length_cons] at this; omega
      · have hfr : f.a ≠ r := get_ne hfo hr1 (by simp [DF.obj])
        rw [get_set_ne hfr]; exact hr1

theorem f15_ok (h : Dk G d S) (w : Wf S) {k : Int} (hk : -9223372036854775808 ≤ k ∧ k ≤ 9223372036854775807) (hq1 : S.down = true → Q (.tuple []) G) (hq : S.down = false → ∀ G', Nx G d S G' (crash S k) → Q (.tuple []) G') :
    Cl B 15 [.ptr (some (.new d, 0)), .int .i64 k] G Q := by
  refine f15_in fun n cl hn hcl hH hA => ?_
  subst hcl
  refine op_get (off := 3) h.top rfl ?_
  rw [pBool_bool]
  refine bs_iff.2 ⟨fun e => tidy_none (hq1 e), fun e => J15_10_in ?_⟩
  refine op_get (off := 1) h.top rfl (rowV_live _ _ _ ?_)
  have hpl : lenOf (rowV S.po S.ps.length 2) = some S.ps.length := h.plen
  rw [hpl, ob_some]
  refine f15_loop1 (S := S) (G := G) w.psl S.ps 0 k S.fs G (by simp) (Nx.rfl' h) w.pin (fun f hf => by rw [w.syl f hf]; exact Nat.le_refl _) w.big hk fun Y hY => J15_9_in ?_
  refine op_get (off := 0) hY.dk.top rfl (live_map ?_)
  refine op_range hY.dk ?_
  have hYa := hY.trans (Nx.app hY.dk [.iter (some (.new S.m)) S.clock [] S.clock])
  have hn1 : ((S.fs.map (bumpF S.ps k)).map DF.a).Nodup := hY.dk.ads
  have hn2 : ((S.fs.map (bumpF S.ps k)).map DF.born).Nodup := hY.dk.bns
  have e0 : (S.fs.map (bumpF S.ps k)).map (trF []) = S.fs.map (bumpF S.ps k) := by
    have : trF [] = id := by funext f; simp [trF]
    rw [this, List.map_id]
  refine f15_loop2 (S := S) (G := G) (fs2 := S.fs.map (bumpF S.ps k)) hY.fr.le (fun f hf => ?_) (fun Y2 h2 => J15_8_in ?_) _ [] _ rfl hn1 hn2 (by rw [e0]; exact hYa) get_app0
  · obtain ⟨g, hg, rfl⟩ := List.mem_map.1 hf
    have h1 := w.syl g hg
    have h2 := kept_le S.ps k g.a
    show g.syn + kept S.ps k g.a ≤ g.s.length
    omega
  · have hd := lt_of_get h2.dk.top
    refine op_put (off := 1) rfl h2.dk.top (by simp) ?_
    refine op_put (off := 3) rfl (get_set hd) (by simp) ?_
    refine op_put (off := 4) rfl (get_set (by simpa using hd)) (by simp) (tidy_none ?_)
    rw [List.set_set, List.set_set]
    refine hq e _ (h2.trans (h2.dk.head (S' := crash S k) rfl ?_ rfl (by simp) (fun q hq hne _ => get_set_ne (Ne.symm hne)) (get_set hd) rfl fun q e => by cases e))
    show S.fs.map _ = (S.fs.map (bumpF S.ps k)).map trunc
    rw [List.map_map]; rfl
end
end Go.Am

/- The disk: a call that writes; Create, Append, Sync, Delete. -/
namespace Go.Am
open Go

section
variable {B : Base} {G X Y : Heap} {d : Nat} {S : DS} {Q : AV → Heap → Prop}

theorem Bs.next {v : AV} {s : List UInt8} {G' : Heap} {S' : DS} (h : Bs B G v s) (hv : NotOwn d S v) (hx : Fr G d S G' S') : Bs B G' v s := by
  obtain ⟨h0, h1 | ⟨o, off, cap, rfl, hc⟩⟩ := h
  · exact ⟨h0, .inl h1⟩
  · refine ⟨h0, .inr ⟨o, off, cap, rfl, ?_⟩⟩
    obtain ⟨cs, h1, h2, h3⟩ := cellsAt_iff'.1 hc
    cases o with
    | base bb ss => exact cellsAt_iff'.2 ⟨cs, h1, h2, h3⟩
    | new k =>
      refine cellsAt_iff'.2 ⟨cs, ?_, h2, h3⟩
      have hno := hv k _ _ _ _ rfl
      have hl : k < G.length := by
        simp only [cellsOf] at h1
        rcases Nat.lt_or_ge k G.length with h' | h'
        · exact h'
        · rw [List.getElem?_eq_none h'] at h1; cases h1
      simp only [cellsOf] at h1 ⊢
      rw [hx.same k hl hno]; exact h1
theorem NotOwn.next {v : AV} {s : List UInt8} {G' : Heap} {S' : DS} (h : Bs B G v s) (hv : NotOwn d S v) (hx : Fr G d S G' S') : NotOwn d S' v := fun k off len es cap e ho => by
  rcases hx.own k ho with h1 | h1
  · exact hv k off len es cap e h1
  · obtain ⟨h0, ⟨rfl, _⟩ | ⟨o, off', cap', rfl, hc⟩⟩ := h
    · cases e
    · cases e
      obtain ⟨cs, h2, _⟩ := cellsAt_iff'.1 hc
      simp only [cellsOf] at h2
      rw [List.getElem?_eq_none h1] at h2; cases h2

/-! ### A call that writes -/
def wr (S : DS) : DS := if S.down = true then S else if 0 < S.armed then (if S.armed = 1 then crash S S.keep else { S with armed := S.armed - 1 }) else S
def wrUp (S : DS) : Bool := !S.down && decide (S.armed ≠ 1)
theorem wr_idle (h1 : S.down = false) (h2 : S.armed ≤ 0) : wr S = S ∧ wrUp S = true := by
  constructor
  · unfold wr; rw [h1, if_neg (by simp), if_neg (by omega)]
  · simp [wrUp, h1]; omega
theorem wr_one (hd : S.down = false) (e : S.armed = 1) : wr S = crash S S.keep := by
  unfold wr; rw [if_neg (by simp [hd]), if_pos (by omega), if_pos e]
theorem wr_arm (hd : S.down = false) (h0 : 0 < S.armed) (e : S.armed ≠ 1) : wr S = { S with armed := S.armed - 1 } := by
  unfold wr; rw [if_neg (by simp [hd]), if_pos h0, if_neg e]
theorem wr_fs (h : wrUp S = true) : (wr S).fs = S.fs ∧ (wr S).ps = S.ps ∧ (wr S).cap = S.cap := by
  simp only [wrUp, Bool.and_eq_true, Bool.not_eq_true', decide_eq_true_eq] at h
  unfold wr
  rw [h.1, if_neg (by simp)]
  split
  · rw [if_neg h.2]; exact ⟨rfl, rfl, rfl⟩
  · exact ⟨rfl, rfl, rfl⟩
theorem tot_map_le {fs : List DF} {g : DF → DF} (h : ∀ f, f ∈ fs → (g f).s.length ≤ f.s.length) : tot (fs.map g) ≤ tot fs := by
  induction fs with
  | nil => exact Nat.le_refl _
  | cons f r ih =>
    rw [List.map_cons, tot_cons, tot_cons]
    have h1 := h f (List.mem_cons_self ..)
    have h2 := ih fun x hx => h x (List.mem_cons_of_mem _ hx)
    omega
theorem Wf.crash (w : Wf S) (k : Int) : Wf (crash S k) := by
  refine ⟨fun p hp => (by cases hp), fun f hf => ?_, ?_, Nat.zero_le _, w.cap0, ⟨by show (-9223372036854775808 : Int) ≤ 0; omega, by show (0 : Int) ≤ 9223372036854775807; omega⟩, w.kpr⟩
  · obtain ⟨g, hg, rfl⟩ := List.mem_map.1 hf
    have h1 := w.syl g hg
    have h2 := kept_le S.ps k g.a
    show (g.s.take (g.syn + kept S.ps k g.a)).length = g.syn + kept S.ps k g.a + 0
    rw [List.length_take]; omega
  · exact Nat.le_trans (tot_map_le fun f _ => by show (f.s.take _).length ≤ _; rw [List.length_take]; omega) w.big
theorem Wf.wr (w : Wf S) : Wf (wr S) := by
  unfold Am.wr
  split
  · exact w
  · split
    · split
      · exact w.crash _
      · exact ⟨w.pin, w.syl, w.big, w.psl, w.cap0, by have := w.arm; exact ⟨by show _ ≤ S.armed - 1; omega, by show S.armed - 1 ≤ _; omega⟩, w.kpr⟩
    · exact w

theorem f51_ok (h : Dk G d S) (w : Wf S) (hq : ∀ G', Nx G d S G' (wr S) → Q (.int .i64 (if wrUp S = true then 0 else 6)) G') : Cl B 51 [.ptr (some (.new d, 0))] G Q := by
  refine f51_in fun n cl hn hcl hH hA => ?_
  subst hcl
  refine op_get (off := 3) h.top rfl ?_
  rw [pBool_bool]
  refine bs_iff.2 ⟨fun hd => tidy_none ?_, fun hd => ?_⟩
  · have := hq G (by unfold wr; rw [if_pos hd]; exact Nx.rfl' h)
    rwa [wrUp, hd] at this
  refine op_get (off := 4) h.top rfl ?_
  rw [pInt_int]
  have ha := w.arm
  refine bs_dec (fun h0 => ?_) fun h0 => J51_0_in (tidy_none ?_)
  · refine op_get (off := 4) h.top rfl ?_
    rw [pInt_int]
    refine op_put (off := 4) rfl h.top (by simp) ?_
    rw [w64 (by omega)]
    have h1 : Nx G d S (G.set d (.var (List.set [.map (some (.new S.m)), S.pv, .int .i64 S.cap, .bool S.down, .int .i64 S.armed, .int .i64 S.keep] 4 (.int .i64 (S.armed - 1))))) { S with armed := S.armed - 1 } := h.set (S' := { S with armed := S.armed - 1 }) rfl rfl rfl rfl rfl
    refine op_get (off := 4) h1.dk.top rfl ?_
    rw [pInt_int]
    by_cases e : S.armed = 1
    · refine bs_of true (by simp [e]) (fun _ => ?_) fun e => by cases e
      refine op_get (off := 5) h1.dk.top rfl ?_
      rw [pInt_int]
      have w1 : Wf { S with armed := S.armed - 1 } := ⟨w.pin, w.syl, w.big, w.psl, w.cap0, ⟨by show _ ≤ S.armed - 1; omega, by show S.armed - 1 ≤ _; omega⟩, w.kpr⟩
      refine f15_ok h1.dk w1 w.kpr (fun hd' => by have : S.down = true := hd'; rw [hd] at this; cases this) fun _ G' hG' => live_unit (tidy_none ?_)
      have := hq G' (by rw [wr_one hd e]; exact h1.trans hG')
      rwa [wrUp, hd, e] at this
    · refine bs_of false (by simp; omega) (fun e => by cases e) fun _ => J51_0_in (tidy_none ?_)
      have := hq _ (by rw [wr_arm hd (by omega) e]; exact h1)
      rwa [if_pos (by simp [wrUp, hd, e])] at this
  · obtain ⟨h1, h2⟩ := wr_idle hd (by omega)
    have := hq G (by rw [h1]; exact Nx.rfl' h)
    rwa [if_pos h2] at this

theorem f36_ok {x : List UInt8} (h : Dk G d S) (w : Wf S) (hq1 : wrUp S = false → ∀ G', Nx G d S G' (wr S) → Q (.tuple [.ptr none, .int .i64 6]) G') (hq2 : wrUp S = true → rightB x = false → ∀ G', Nx G d S G' (wr S) → Q (.tuple [.ptr none, .int .i64 1]) G')
    (hq3 : wrUp S = true → rightB x = true → (∀ f, f ∈ (wr S).fs → f.name ≠ x) → ∀ G', Nx G d S G' (wr S) → Q (.tuple [.ptr none, .int .i64 5]) G')
    (hq4 : wrUp S = true → rightB x = true → ∀ f, f ∈ (wr S).fs → f.name = x → ∀ G', Nx G d S G' (wr S) → Q (.tuple [.ptr (some (.new f.a, 0)), .int .i64 0]) G') : Cl B 36 [.ptr (some (.new d, 0)), .str x] G Q := by
  refine f36_in fun n cl hn hcl hH hA => ?_
  subst hcl
  refine f51_ok h w fun G' hG => ?_
  rw [pInt_int]
  cases hu : wrUp S with
  | false =>
    rw [if_neg (by simp)]
    exact bs_of true (by simp) (fun _ => tidy_none (hq1 hu G' hG)) fun e => by cases e
  | true =>
    rw [if_pos rfl]
    refine bs_of false (by simp) (fun e => by cases e) fun _ => f37_ok ?_
    rw [pBool_bool]
    refine bs_iff.2 ⟨fun hr => ?_, fun hr => tidy_none (hq2 hu hr G' hG)⟩
    refine op_get (off := 0) hG.dk.top rfl (live_map ?_)
    refine op_look hG.dk (fun f hf hx => ?_) fun hno => ?_
    · refine op_isNil (b := false) rfl ?_
      rw [pBool_bool, if_neg (by simp)]
      exact tidy_none (hq4 hu hr f hf hx G' hG)
    · refine op_isNil (b := true) rfl ?_
      rw [pBool_bool, if_pos rfl]
      exact tidy_none (hq3 hu hr hno G' hG)

/-! ### Create -/
theorem Dk.create (h : Dk G d S) {x : List UInt8} {a : Nat} {c : AObj} (ha : a = G.length) (hc : c = .var [.nils, .int .i64 0]) (hno : ∀ f, f ∈ S.fs → f.name ≠ x) :
    Nx G d S ((G ++ [c]).set S.m (.map (S.fs.map DF.ent ++ [(.str x, .ptr (some (.new a, 0)), S.clock)]) (S.clock + 1))) { S with fs := S.fs ++ [⟨x, a, none, [], 0, S.clock, none⟩], clock := S.clock + 1 } := by
  subst ha; subst hc
  have hm := lt_of_get h.mp
  have key : ∀ {k : Nat} {o : AObj}, G[k]? = some o → k ≠ S.m → ((G ++ [AObj.var [.nils, .int .i64 0]]).set S.m (.map (S.fs.map DF.ent ++ [(.str x, .ptr (some (.new G.length, 0)), S.clock)]) (S.clock + 1)))[k]? = some o := fun hk hne => by
    rw [get_set_ne (Ne.symm hne)]; exact get_pre hk
  have mem : ∀ {f : DF}, f ∈ S.fs ++ [⟨x, G.length, none, [], 0, S.clock, none⟩] → f ∈ S.fs ∨ f = ⟨x, G.length, none, [], 0, S.clock, none⟩ := fun hf => by simpa using hf
  refine ⟨⟨?_, ?_, fun f hf => ?_, fun f hf => ?_, ?_, ?_, ?_, ?_, fun f hf => ?_, fun f g hf hg k h1 h2 => ?_, fun f hf k hk => ?_⟩, ⟨by simp, fun k hk hno' => ?_, fun k hk => ?_⟩⟩
  · exact key h.top (get_ne h.top h.mp (by simp [DS.obj]))
  · show ((G ++ [AObj.var [.nils, .int .i64 0]]).set S.m _)[S.m]? = _
    rw [get_set (by simp; omega)]
    simp [DF.ent, DF.ptr]
  · rcases mem hf with hf | rfl
    · exact key (h.fil f hf) (get_ne (h.fil f hf) h.mp (by simp [DF.obj]))
    · rw [get_set_ne (by show S.m ≠ G.length; omega)]
      show (G ++ _)[G.length]? = _
      rw [get_app0]; rfl
  · rcases mem hf with hf | rfl
    · refine (h.row f hf).keep fun k e => ?_
      obtain ⟨c, hc⟩ := h.row_get hf e
      rw [hc]; exact key hc (get_ne hc h.mp (by simp))
    · exact ⟨rfl, .inl rfl⟩
  · refine h.pcs.keep fun k e => ?_
    obtain ⟨c, hc⟩ := h.pcs_get e
    rw [hc]; exact key hc (get_ne hc h.mp (by simp))
  · show ((S.fs ++ [_]).map DF.name).Nodup
    rw [List.map_append, List.nodup_append]
    refine ⟨h.nms, by simp, fun a ha b hb => ?_⟩
    obtain ⟨f, hf, rfl⟩ := List.mem_map.1 ha
    have : b = x := by simpa using hb
    rw [this]; exact hno f hf
  · show ((S.fs ++ [_]).map DF.a).Nodup
    rw [List.map_append, List.nodup_append]
    refine ⟨h.ads, by simp, fun a ha b hb => ?_⟩
    obtain ⟨f, hf, rfl⟩ := List.mem_map.1 ha
    have : b = G.length := by simpa using hb
    have := lt_of_get (h.fil f hf)
    omega
  · show ((S.fs ++ [_]).map DF.born).Nodup
    rw [List.map_append, List.nodup_append]
    refine ⟨h.bns, by simp, fun a ha b hb => ?_⟩
    obtain ⟨f, hf, rfl⟩ := List.mem_map.1 ha
    have : b = S.clock := by simpa using hb
    have := h.blt f hf
    omega
  · rcases mem hf with hf | rfl
    · have := h.blt f hf
      show f.born < S.clock + 1; omega
    · show S.clock < S.clock + 1; omega
  · rcases mem hf with hf | rfl <;> rcases mem hg with hg | rfl
    · exact h.arr f g hf hg k h1 h2
    · cases h2
    · cases h1
    · rfl
  · rcases mem hf with hf | rfl
    · exact h.arp f hf k hk
    · cases hk
  · rw [get_set_ne (fun e => hno' (.inr (.inl e.symm))), get_low hk]
  · rcases hk with rfl | rfl | ⟨f, hf, hk⟩ | hk
    · exact .inl (.inl rfl)
    · exact .inl (.inr (.inl rfl))
    · rcases mem hf with hf | rfl
      · exact .inl (.inr (.inr (.inl ⟨f, hf, hk⟩)))
      · rcases hk with rfl | hk
        · exact .inr (Nat.le_refl _)
        · cases hk
    · exact .inl (.inr (.inr (.inr hk)))
theorem Wf.create (w : Wf S) {x : List UInt8} {a : Nat} (ha : ∀ f, f ∈ S.fs → f.a ≠ a) : Wf { S with fs := S.fs ++ [⟨x, a, none, [], 0, S.clock, none⟩], clock := S.clock + 1 } := by
  refine ⟨fun p hp => ?_, fun f hf => ?_, ?_, w.psl, w.cap0, w.arm, w.kpr⟩
  · obtain ⟨f, hf, e⟩ := w.pin p hp
    exact ⟨f, List.mem_append_left _ hf, e⟩
  · rcases List.mem_append.1 hf with hf | hf
    · exact w.syl f hf
    · have : f = ⟨x, a, none, [], 0, S.clock, none⟩ := by simpa using hf
      subst this
      have : ∀ ps : List (Nat × Nat), (∀ p, p ∈ ps → p.1 ≠ a) → psum ps a = 0 := fun ps => by
        induction ps with
        | nil => intro _; rfl
        | cons p r ih =>
          intro h
          simp only [psum, if_neg (h p (List.mem_cons_self ..)), Nat.zero_add]
          exact ih fun q hq => h q (List.mem_cons_of_mem _ hq)
      show 0 = 0 + psum S.ps a
      rw [this S.ps fun p hp => by
        obtain ⟨f, hf, e⟩ := w.pin p hp
        rw [← e]; exact ha f hf]
  · have := w.big
    show tot (S.fs ++ [_]) ≤ _
    unfold tot at this ⊢
    simpa using this
theorem f13_ok {x : List UInt8} (h : Dk G d S) (w : Wf S) (hq1 : wrUp S = false → ∀ G', Nx G d S G' (wr S) → Q (.int .i64 6) G') (hq2 : wrUp S = true → rightB x = false → ∀ G', Nx G d S G' (wr S) → Q (.int .i64 1) G')
    (hq3 : wrUp S = true → rightB x = true → (∀ f, f ∈ (wr S).fs → f.name ≠ x) → ∀ G' a, (∀ f, f ∈ (wr S).fs → f.a ≠ a) → Nx G d S G' { wr S with fs := (wr S).fs ++ [⟨x, a, none, [], 0, (wr S).clock, none⟩], clock := (wr S).clock + 1 } → Q (.int .i64 0) G')
    (hq4 : wrUp S = true → rightB x = true → ∀ f, f ∈ (wr S).fs → f.name = x → ∀ G', Nx G d S G' (wr S) → Q (.int .i64 7) G') : Cl B 13 [.ptr (some (.new d, 0)), .str x] G Q := by
  refine f13_in fun n cl hn hcl hH hA => ?_
  subst hcl
  refine f36_ok h w (fun hu G' hG => live_tuple ?_) (fun hu hr G' hG => live_tuple ?_) (fun hu hr hno G' hG => live_tuple ?_) fun hu hr f hf hx G' hG => live_tuple ?_
  all_goals
    refine ext_other rfl (by simp) (ext_int rfl ?_)
    rw [pInt_int]
  · refine bs_of false (by simp) (fun e => by cases e) fun _ => ?_
    rw [pInt_int]
    exact bs_of false (by simp) (fun e => by cases e) fun _ => tidy_none (hq1 hu G' hG)
  · refine bs_of false (by simp) (fun e => by cases e) fun _ => ?_
    rw [pInt_int]
    exact bs_of false (by simp) (fun e => by cases e) fun _ => tidy_none (hq2 hu hr G' hG)
  · refine bs_of false (by simp) (fun e => by cases e) fun _ => ?_
    rw [pInt_int]
    refine bs_of true (by simp) (fun _ => ?_) fun e => by cases e
    refine op_get (off := 0) hG.dk.top rfl (live_map ?_)
    rw [show layParts [.nils, .int .i64 0] [] = some [.nils, .int .i64 0] from rfl, ob_some]
    refine op_box rfl rfl ?_
    simp only [aop, opK, Opd.look, ob_some]
    rw [get_pre hG.dk.mp]
    simp only [find_none 0 hno, ob_some]
    exact tidy_none (hq3 hu hr hno _ G'.length (fun f hf => by have := lt_of_get (hG.dk.fil f hf); omega) (hG.trans (hG.dk.create rfl rfl hno)))
  · exact bs_of true (by simp) (fun _ => tidy_none (hq4 hu hr f hf hx G' hG)) fun e => by cases e

/-! ### Append -/
def appS (S : DS) (f : DF) (o' po' : Option Nat) (b : List UInt8) : DS := { S with fs := S.fs.map (updF f.a { f with o := o', s := f.s ++ b, z := zapp f.z b }), po := po', ps := S.ps ++ [(f.a, b.length)] }
theorem f14_ok {x : List UInt8} {v : AV} {b : List UInt8} (h : Dk G d S) (w : Wf S) (hb : Bs B G v b) (hv : NotOwn d S v) (hbig : tot S.fs + b.length ≤ S.cap → tot S.fs + b.length ≤ 70368744177664)
    (hq1 : wrUp S = false → ∀ G', Nx G d S G' (wr S) → Q (.int .i64 6) G') (hq2 : wrUp S = true → rightB x = false → ∀ G', Nx G d S G' (wr S) → Q (.int .i64 1) G')
    (hq3 : wrUp S = true → rightB x = true → (∀ f, f ∈ (wr S).fs → f.name ≠ x) → ∀ G', Nx G d S G' (wr S) → Q (.int .i64 5) G')
    (hq4 : wrUp S = true → rightB x = true → ∀ f, f ∈ (wr S).fs → f.name = x → S.cap < tot S.fs + b.length → ∀ G', Nx G d S G' (wr S) → Q (.int .i64 4) G')
    (hq5 : wrUp S = true → rightB x = true → ∀ f, f ∈ (wr S).fs → f.name = x → tot S.fs + b.length ≤ S.cap → ∀ G' o' po', Nx G d S G' (appS (wr S) f o' po' b) → Q (.int .i64 0) G') : Cl B 14 [.ptr (some (.new d, 0)), .str x, v] G Q := by
  refine f14_in fun n cl hn hcl hH hA => J14_6_in ?_
  subst hcl
  have hbl : b.length ≤ 140737488355328 ∨ True := .inr trivial
  refine f36_ok h w (fun hu G' hG => live_tuple ?_) (fun hu hr G' hG => live_tuple ?_) (fun hu hr hno G' hG => live_tuple ?_) fun hu hr f hf hx G' hG => live_tuple ?_
  all_goals
    refine ext_other rfl (by simp) (ext_int rfl (J14_5_in ?_))
    rw [pInt_int]
  · exact bs_of true (by simp) (fun _ => tidy_none (hq1 hu G' hG)) fun e => by cases e
  · exact bs_of true (by simp) (fun _ => tidy_none (hq2 hu hr G' hG)) fun e => by cases e
  · exact bs_of true (by simp) (fun _ => tidy_none (hq3 hu hr hno G' hG)) fun e => by cases e
  refine bs_of false (by simp) (fun e => by cases e) fun _ => J14_4_in ?_
  have hb' := hb.next hv hG.fr
  obtain ⟨e1, e2, e3⟩ := wr_fs hu
  have w' := w.wr
  have hcap := w'.cap0
  have hbg := w'.big
  rw [hb.len, ob_some]
  refine op_nil (op_fldP ?_)
  rw [Nat.zero_add, peekV hG.dk.top (v := .int .i64 (wr S).cap) rfl, ob_some, pInt_int]
  refine f18_ok hG.dk (by omega) ?_
  rw [pInt_int]
  refine ⟨?_, op_fldP rfl, op_nil rfl, rfl, by rw [ob_some], rfl, ?_⟩
  · rw [peekV hG.dk.top (v := .int .i64 (wr S).cap) rfl, ob_some, pInt_int]
  rw [w64 (by omega)]
  by_cases hfull : (wr S).cap < tot (wr S).fs + b.length
  · refine ib_gt_yes (by omega) (J14_0_in ?_)
    rw [pBool_bool, if_pos rfl]
    rw [e1, e3] at hfull
    exact tidy_none (hq4 hu hr f hf hx hfull G' hG)
  refine ib_gt_no (by omega) (J14_0_in ?_)
  rw [pBool_bool, if_neg (by simp)]
  have hfit : tot S.fs + b.length ≤ S.cap := by rw [e1, e3] at hfull; omega
  have hbg2 := hbig hfit
  refine J14_3_in ?_
  have hfo := hG.dk.fil f hf
  have hfl := tot_le hf
  rw [e1] at hfl
  refine op_get (off := 0) hfo rfl (rowZ_live _ _ _ ?_)
  have hrow := hG.dk.row f hf
  have hmx : maxBytes = 140737488355328 := rfl
  refine op_appFile (B := B) (u := v) hrow hb' (by omega) (K := fun v26 H27 => aop B E0 H27 (fun v28 _ => aop B E0 H27 (fun v29 _ => aop B E0 H27 (fun _ H31 => J14_2 B (Cl B) n (.ptr (some (.new d, 0))) v (.ptr (some (.new f.a, 0))) H31 Q) (.st 1 (.const v29) (.const v26))) (.fieldPtr 0 (.const v28))) (.nilCheck (.const (.ptr (some (.new f.a, 0)))))) fun o' G2 hle hoth hrow2 ho' => ?_
  have hfa : G2[f.a]? = some f.obj := by
    refine (hoth _ (lt_of_get hfo) fun e => ?_).trans hfo
    obtain ⟨c, hc⟩ := hG.dk.row_get hf e
    rw [hfo] at hc; simp [DF.obj] at hc
  refine op_put (off := 0) (by cases o' <;> rfl) hfa (by simp) ?_
  have h2 := hG.trans (hG.dk.file (f' := { f with o := o', s := f.s ++ b, z := zapp f.z b }) (G' := G2.set f.a (.var [rowZ (zapp f.z b) o' (f.s ++ b).length, .int .i64 (f.syn : Int)])) hf rfl rfl rfl (by simpa using hle) (fun q hq hne hno => by rw [get_set_ne (Ne.symm hne)]; exact hoth q hq hno) (get_set (lt_of_get hfa)) (hrow2.keep fun q e => get_set_ne (by
    have : ∃ c, G2[q]? = some (.arr c) := by
      have e' : o' = some q := e
      have hr1 := hrow2.1
      rw [e'] at hr1
      obtain ⟨t, ht⟩ := hr1; exact ⟨_, ht⟩
    obtain ⟨c, hc⟩ := this
    exact get_ne hfa hc (by simp [DF.obj]))) ho')
  refine J14_2_in ?_
  refine op_get (off := 1) h2.dk.top rfl (rowV_live _ _ _ ?_)
  rw [hb.len, ob_some]
  rw [show layParts [.ptr none, .int .i64 0] [(0, 1, .ptr (some (.new f.a, 0))), (1, 1, .int .i64 (b.length : Int))] = some (prow (f.a, b.length)) from rfl, ob_some]
  rw [show layParts [.ptr none, .int .i64 0] [(0, 2, .agg (prow (f.a, b.length)))] = some (prow (f.a, b.length)) from rfl, ob_some]
  refine slK_in ?_
  have h3 := h2.trans (Nx.app h2.dk [.arr (prow (f.a, b.length))])
  have hpl := w'.psl
  have happ2 := op_appRow (B := B) (bytes := 16) (rows2 := [prow (f.a, b.length)]) h3.dk.pcs (prow_len _) (sl_row1 (es := 2) rfl) (by show ((List.map prow (wr S).ps).length + 1) * 16 ≤ _; rw [List.length_map]; omega) (K := fun v41 H42 => aop B E0 H42 (fun v43 _ => aop B E0 H42 (fun v44 _ => aop B E0 H42 (fun _ H46 => J14_1 B (Cl B) n H46 Q) (.st 1 (.const v44) (.const v41))) (.fieldPtr 1 (.const v43))) (.nilCheck (.const (.ptr (some (.new d, 0))))))
  rw [List.length_map] at happ2
  refine happ2 fun po' G4 hle4 hoth4 hrow4 ho4 => ?_
  have htop := h3.dk.top
  have hd : G4[d]? = some (DS.obj { wr S with fs := (wr S).fs.map (updF f.a { f with o := o', s := f.s ++ b, z := zapp f.z b }) }) := by
    refine (hoth4 _ (lt_of_get htop) fun e => ?_).trans htop
    obtain ⟨c, hc⟩ := h3.dk.pcs_get e
    rw [htop] at hc; simp [DS.obj] at hc
  refine op_put (off := 1) (by cases po' <;> rfl) hd (by simp) (J14_1_in (tidy_none ?_))
  have e5 : (wr S).ps.map prow ++ [prow (f.a, b.length)] = ((wr S).ps ++ [(f.a, b.length)]).map prow := by rw [List.map_append]; rfl
  simp only [e5] at hrow4 ⊢
  rw [List.length_map]
  refine hq5 hu hr f hf hx hfit _ o' po' (h3.trans (h3.dk.head (S' := appS (wr S) f o' po' b) rfl rfl rfl ?_ (fun q hq hne hpo => by rw [get_set_ne (Ne.symm hne)]; exact hoth4 q hq hpo) (get_set (lt_of_get hd)) (hrow4.keep fun q e => get_set_ne ?_) ho4))
  · simpa using hle4
  · have : ∃ c, G4[q]? = some (.arr c) := by
      have e' : po' = some q := e
      rw [e'] at hrow4
      obtain ⟨t, ht⟩ := hrow4; exact ⟨_, ht⟩
    obtain ⟨c, hc⟩ := this
    exact get_ne hd hc (by simp [DS.obj])
end
end Go.Am

/- The disk: Sync, Delete; what its numbers come to. -/
namespace Go.Am
open Go

theorem psum_app : ∀ (ps : List (Nat × Nat)) (p : Nat × Nat) (x : Nat), psum (ps ++ [p]) x = psum ps x + (if p.1 = x then p.2 else 0)
  | [], p, x => by simp [psum]
  | q :: r, p, x => by
    simp only [List.cons_append, psum, psum_app r p x]; omega
theorem psum_not : ∀ (ps : List (Nat × Nat)) (a x : Nat), psum (ps.filter (notOf a)) x = if x = a then 0 else psum ps x
  | [], a, x => by simp [psum]
  | q :: r, a, x => by
    have ih := psum_not r a x
    by_cases h : q.1 = a
    · have h1 : notOf a q = false := by simp [notOf, h]
      rw [List.filter_cons_of_neg (by simp [h1]), ih]
      split
      · rfl
      · rename_i hne
        simp only [psum]
        rw [if_neg (by omega), Nat.zero_add]
    · have h1 : notOf a q = true := by simp [notOf, h]
      rw [List.filter_cons_of_pos h1]
      simp only [psum, ih]
      by_cases e : q.1 = x
      · have : ¬ x = a := fun e' => h (by rw [e, e'])
        simp [e, this]
      · simp [e]
theorem map_erase {α β : Type} (p : α → β) : ∀ (l : List α) (j : Nat), (l.map p).eraseIdx j = (l.eraseIdx j).map p
  | [], _ => rfl
  | x :: r, 0 => rfl
  | x :: r, j + 1 => by simp only [List.map_cons, List.eraseIdx_cons_succ, map_erase p r j]
theorem tot_upd {f f' : DF} : ∀ {fs : List DF}, (fs.map DF.a).Nodup → f ∈ fs → tot (fs.map (updF f.a f')) + f.s.length = tot fs + f'.s.length
  | [], _, h => by cases h
  | g :: r, hn, h => by
    simp only [List.map_cons, List.nodup_cons] at hn
    rw [List.map_cons, tot_cons, tot_cons]
    rcases List.mem_cons.1 h with e | h
    · subst e
      have h1 : r.map (updF f.a f') = r := by
        have : ∀ x, x ∈ r → updF f.a f' x = x := fun x hx => if_neg fun e => hn.1 (List.mem_map.2 ⟨x, hx, e⟩)
        rw [List.map_congr_left (g := id) this, List.map_id]
      rw [h1, updF, if_pos rfl]; omega
    · have ih := tot_upd (f' := f') hn.2 h
      have h1 : updF f.a f' g = g := if_neg fun e => hn.1 (List.mem_map.2 ⟨f, h, e.symm⟩)
      rw [h1]; omega
theorem erase_filter {f : DF} : ∀ {fs : List DF} {j : Nat}, (fs.map DF.a).Nodup → fs[j]? = some f → fs.eraseIdx j = fs.filter fun g => !(g.a == f.a)
  | [], j, _, h => by simp at h
  | g :: r, 0, hn, h => by
    have : g = f := by simpa using h
    subst this
    simp only [List.map_cons, List.nodup_cons] at hn
    rw [List.eraseIdx_cons_zero, List.filter_cons_of_neg (by simp)]
    refine (List.filter_eq_self.2 fun x hx => ?_).symm
    have : x.a ≠ g.a := fun e => hn.1 (List.mem_map.2 ⟨x, hx, e⟩)
    simp [this]
  | g :: r, j + 1, hn, h => by
    simp only [List.map_cons, List.nodup_cons] at hn
    have h' : r[j]? = some f := by simpa using h
    have hne : g.a ≠ f.a := fun e => hn.1 (List.mem_map.2 ⟨f, List.mem_of_getElem? h', e.symm⟩)
    rw [List.eraseIdx_cons_succ, List.filter_cons_of_pos (by simp [hne]), erase_filter hn.2 h']

section
variable {B : Base} {G X Y : Heap} {d : Nat} {S : DS} {Q : AV → Heap → Prop}

theorem Wf.app (w : Wf S) (ha : (S.fs.map DF.a).Nodup) {f : DF} (hf : f ∈ S.fs) {o' po' : Option Nat} {b : List UInt8} (hb : tot S.fs + b.length ≤ 70368744177664) (hp : S.ps.length < 1000000) : Wf (appS S f o' po' b) := by
  refine ⟨fun p hp => ?_, fun g hg => ?_, ?_, by show (S.ps ++ [_]).length ≤ _; simp; omega, w.cap0, w.arm, w.kpr⟩
  · have key : ∀ g, g ∈ S.fs → ∃ g', g' ∈ (appS S f o' po' b).fs ∧ g'.a = g.a := fun g hg => by
      refine ⟨updF f.a { f with o := o', s := f.s ++ b, z := zapp f.z b } g, List.mem_map.2 ⟨g, hg, rfl⟩, ?_⟩
      unfold updF; split
      · rename_i e; exact e.symm
      · rfl
    rcases List.mem_append.1 hp with hp | hp
    · obtain ⟨g, hg, e⟩ := w.pin p hp
      obtain ⟨g', h1, h2⟩ := key g hg
      exact ⟨g', h1, by rw [h2, e]⟩
    · have : p = (f.a, b.length) := by simpa using hp
      subst this
      exact key f hf
  · show g.s.length = g.syn + psum (S.ps ++ [(f.a, b.length)]) g.a
    rw [psum_app]
    rcases updF_mem hg with rfl | ⟨hg, hne⟩
    · have := w.syl f hf
      show (f.s ++ b).length = f.syn + (psum S.ps f.a + _)
      rw [if_pos rfl, List.length_append]; show _ + _ = _; omega
    · rw [if_neg (fun e => hne e.symm)]
      have := w.syl g hg
      omega
  · have := tot_upd (f' := { f with o := o', s := f.s ++ b, z := zapp f.z b }) ha hf
    show tot (S.fs.map (updF f.a { f with o := o', s := f.s ++ b, z := zapp f.z b })) ≤ _
    simp only [List.length_append] at this
    omega

/-! ### Sync -/
def syncS (S : DS) (f : DF) : DS := { S with fs := S.fs.map (updF f.a { f with syn := f.s.length }), ps := S.ps.filter (notOf f.a) }
theorem Wf.sync (w : Wf S) (ha : (S.fs.map DF.a).Nodup) {f : DF} (hf : f ∈ S.fs) : Wf (syncS S f) := by
  refine ⟨fun p hp => ?_, fun g hg => ?_, ?_, Nat.le_trans (List.length_filter_le _ _) w.psl, w.cap0, w.arm, w.kpr⟩
  · obtain ⟨g, hg, e⟩ := w.pin p ((List.mem_filter.1 hp).1)
    refine ⟨updF f.a { f with syn := f.s.length } g, List.mem_map.2 ⟨g, hg, rfl⟩, ?_⟩
    unfold updF; split
    · rename_i e'; rw [← e]; exact e'.symm
    · exact e
  · show g.s.length = g.syn + psum (S.ps.filter (notOf f.a)) g.a
    rw [psum_not]
    rcases updF_mem hg with rfl | ⟨hg, hne⟩
    · rw [if_pos rfl]; rfl
    · rw [if_neg hne]; exact w.syl g hg
  · have := tot_upd (f' := { f with syn := f.s.length }) ha hf
    have h2 := w.big
    show tot (S.fs.map (updF f.a { f with syn := f.s.length })) ≤ _
    simp only at this
    omega
theorem upd_pin {fs : List DF} {ps : List (Nat × Nat)} (h : ∀ p, p ∈ ps → ∃ f, f ∈ fs ∧ f.a = p.1) {a : Nat} {f' : DF} (ha : f'.a = a) : ∀ p, p ∈ ps → ∃ f, f ∈ fs.map (updF a f') ∧ f.a = p.1 := fun p hp => by
  obtain ⟨g, hg, e⟩ := h p hp
  refine ⟨updF a f' g, List.mem_map.2 ⟨g, hg, rfl⟩, ?_⟩
  unfold updF; split
  · rename_i e'; rw [ha, ← e', e]
  · exact e

theorem f20_ok {x : List UInt8} (h : Dk G d S) (w : Wf S) (hq1 : wrUp S = false → ∀ G', Nx G d S G' (wr S) → Q (.int .i64 6) G') (hq2 : wrUp S = true → rightB x = false → ∀ G', Nx G d S G' (wr S) → Q (.int .i64 1) G')
    (hq3 : wrUp S = true → rightB x = true → (∀ f, f ∈ (wr S).fs → f.name ≠ x) → ∀ G', Nx G d S G' (wr S) → Q (.int .i64 5) G')
    (hq4 : wrUp S = true → rightB x = true → ∀ f, f ∈ (wr S).fs → f.name = x → ∀ G', Nx G d S G' (syncS (wr S) f) → Q (.int .i64 0) G') : Cl B 20 [.ptr (some (.new d, 0)), .str x] G Q := by
  refine f20_in fun n cl hn hcl hH hA => ?_
  subst hcl
  refine f36_ok h w (fun hu G' hG => live_tuple ?_) (fun hu hr G' hG => live_tuple ?_) (fun hu hr hno G' hG => live_tuple ?_) fun hu hr f hf hx G' hG => live_tuple ?_
  all_goals
    refine ext_other rfl (by simp) (ext_int rfl ?_)
    rw [pInt_int]
  · exact bs_of true (by simp) (fun _ => tidy_none (hq1 hu G' hG)) fun e => by cases e
  · exact bs_of true (by simp) (fun _ => tidy_none (hq2 hu hr G' hG)) fun e => by cases e
  · exact bs_of true (by simp) (fun _ => tidy_none (hq3 hu hr hno G' hG)) fun e => by cases e
  refine bs_of false (by simp) (fun e => by cases e) fun _ => ?_
  have w' := w.wr
  have hfo := hG.dk.fil f hf
  refine op_get (off := 0) hfo rfl (rowZ_live _ _ _ ?_)
  have hv : lenOf (rowZ f.z f.o f.s.length) = some f.s.length := hG.dk.vlen hf
  rw [hv, ob_some]
  refine op_put (off := 1) rfl hfo (by simp) ?_
  have h2 := hG.trans (hG.dk.file (f' := { f with syn := f.s.length }) (G' := G'.set f.a (.var [f.v, .int .i64 (f.s.length : Int)])) hf rfl rfl rfl (by simp) (fun q hq hne _ => get_set_ne (Ne.symm hne)) (get_set (lt_of_get hfo)) ((hG.dk.row f hf).keep fun q e => get_set_ne (by
    obtain ⟨c, hc⟩ := hG.dk.row_get hf e
    exact get_ne hfo hc (by simp [DF.obj]))) fun q e => .inl e)
  have hf2 : ({ f with syn := f.s.length } : DF) ∈ (wr S).fs.map (updF f.a { f with syn := f.s.length }) := List.mem_map.2 ⟨f, hf, by unfold updF; rw [if_pos rfl]⟩
  have hpl := w'.psl
  refine f39_ok (f := { f with syn := f.s.length }) h2.dk (upd_pin w'.pin rfl) (by show (wr S).ps.length ≤ _; omega) hf2 fun G3 h3 => live_unit (tidy_none (hq4 hu hr f hf hx G3 (h2.trans h3)))

/-! ### Delete -/
def delS (S : DS) (f : DF) : DS := { S with fs := S.fs.filter (fun g => !(g.a == f.a)), ps := S.ps.filter (notOf f.a) }
theorem tot_filter_le (p : DF → Bool) : ∀ fs : List DF, tot (fs.filter p) ≤ tot fs
  | [] => Nat.le_refl _
  | f :: r => by
    have ih := tot_filter_le p r
    rw [tot_cons, List.filter_cons]
    split
    · rw [tot_cons]; omega
    · omega
theorem Wf.del (w : Wf S) {f : DF} : Wf (delS S f) := by
  refine ⟨fun p hp => ?_, fun g hg => ?_, Nat.le_trans (tot_filter_le _ _) w.big, Nat.le_trans (List.length_filter_le _ _) w.psl, w.cap0, w.arm, w.kpr⟩
  · obtain ⟨h1, h2⟩ := List.mem_filter.1 hp
    obtain ⟨g, hg, e⟩ := w.pin p h1
    refine ⟨g, List.mem_filter.2 ⟨hg, ?_⟩, e⟩
    simpa [notOf, e] using h2
  · obtain ⟨h1, h2⟩ := List.mem_filter.1 hg
    show g.s.length = g.syn + psum (S.ps.filter (notOf f.a)) g.a
    rw [psum_not, if_neg (by simpa using h2)]
    exact w.syl g h1
theorem Dk.delete (h : Dk G d S) {f : DF} (hf : f ∈ S.fs) : Nx G d S (G.set S.m (.map ((S.fs.filter fun g => !(g.a == f.a)).map DF.ent) S.clock)) { S with fs := S.fs.filter fun g => !(g.a == f.a) } := by
  have hm := lt_of_get h.mp
  have key : ∀ {k : Nat} {o o2 : AObj}, G[k]? = some o → k ≠ S.m → (G.set S.m o2)[k]? = some o := fun hk hne => by rw [get_set_ne (Ne.symm hne)]; exact hk
  have mem : ∀ {g : DF}, g ∈ S.fs.filter (fun g => !(g.a == f.a)) → g ∈ S.fs := fun hg => (List.mem_filter.1 hg).1
  have sub : ∀ {α : Type} (p : DF → α), (S.fs.map p).Nodup → ((S.fs.filter fun g => !(g.a == f.a)).map p).Nodup := fun p hp => List.Nodup.sublist (List.Sublist.map _ List.filter_sublist) hp
  refine ⟨⟨key h.top (get_ne h.top h.mp (by simp [DS.obj])), get_set hm, fun g hg => key (h.fil g (mem hg)) (get_ne (h.fil g (mem hg)) h.mp (by simp [DF.obj])), fun g hg => ?_, ?_, sub _ h.nms, sub _ h.ads, sub _ h.bns, fun g hg => h.blt g (mem hg), fun g1 g2 h1 h2 => h.arr g1 g2 (mem h1) (mem h2), fun g hg => h.arp g (mem hg)⟩, ⟨by simp, fun k hk hno => get_set_ne fun e => hno (.inr (.inl e.symm)), fun k hk => .inl ?_⟩⟩
  · refine (h.row g (mem hg)).keep fun k e => ?_
    obtain ⟨c, hc⟩ := h.row_get (mem hg) e
    rw [hc]; exact key hc (get_ne hc h.mp (by simp))
  · refine h.pcs.keep fun k e => ?_
    obtain ⟨c, hc⟩ := h.pcs_get e
    rw [hc]; exact key hc (get_ne hc h.mp (by simp))
  · rcases hk with rfl | rfl | ⟨g, hg, hk⟩ | hk
    · exact .inl rfl
    · exact .inr (.inl rfl)
    · exact .inr (.inr (.inl ⟨g, mem hg, hk⟩))
    · exact .inr (.inr (.inr hk))
/-- The map forgets a name. -/
theorem op_mapDel (h : Dk G d S) {f : DF} (hf : f ∈ S.fs) {x : List UInt8} (hx : f.name = x) {K : AV → Heap → Prop} (hk : K .dead (G.set S.m (.map ((S.fs.filter fun g => !(g.a == f.a)).map DF.ent) S.clock))) :
    aop B E0 G K (.mapDel .str (.const (.map (some (.new S.m)))) (.const (.str x))) := by
  obtain ⟨j, h1, h2⟩ := find_some 0 h.nms hf hx
  simp only [aop, opK, Opd.look, ob_some, h.mp, h1, Nat.zero_add]
  rw [← erase_filter h.ads h2] at hk
  have : (S.fs.map DF.ent).eraseIdx j = (S.fs.eraseIdx j).map DF.ent := map_erase _ _ _
  rw [this]; exact hk

theorem f19_ok {x : List UInt8} (h : Dk G d S) (w : Wf S) (hq1 : wrUp S = false → ∀ G', Nx G d S G' (wr S) → Q (.int .i64 6) G') (hq2 : wrUp S = true → rightB x = false → ∀ G', Nx G d S G' (wr S) → Q (.int .i64 1) G')
    (hq3 : wrUp S = true → rightB x = true → (∀ f, f ∈ (wr S).fs → f.name ≠ x) → ∀ G', Nx G d S G' (wr S) → Q (.int .i64 5) G')
    (hq4 : wrUp S = true → rightB x = true → ∀ f, f ∈ (wr S).fs → f.name = x → ∀ G', Nx G d S G' (delS (wr S) f) → Q (.int .i64 0) G') : Cl B 19 [.ptr (some (.new d, 0)), .str x] G Q := by
  refine f19_in fun n cl hn hcl hH hA => ?_
  subst hcl
  refine f36_ok h w (fun hu G' hG => live_tuple ?_) (fun hu hr G' hG => live_tuple ?_) (fun hu hr hno G' hG => live_tuple ?_) fun hu hr f hf hx G' hG => live_tuple ?_
  all_goals
    refine ext_other rfl (by simp) (ext_int rfl ?_)
    rw [pInt_int]
  · exact bs_of true (by simp) (fun _ => tidy_none (hq1 hu G' hG)) fun e => by cases e
  · exact bs_of true (by simp) (fun _ => tidy_none (hq2 hu hr G' hG)) fun e => by cases e
  · exact bs_of true (by simp) (fun _ => tidy_none (hq3 hu hr hno G' hG)) fun e => by cases e
  refine bs_of false (by simp) (fun e => by cases e) fun _ => ?_
  have w' := w.wr
  have hpl := w'.psl
  refine f39_ok hG.dk w'.pin (by omega) hf fun G3 h3 => live_unit ?_
  have h4 := hG.trans h3
  refine op_get (off := 0) h4.dk.top rfl (live_map ?_)
  refine op_mapDel h4.dk hf hx (tidy_none ?_)
  exact hq4 hu hr f hf hx _ (h4.trans (h4.dk.delete hf))
end
end Go.Am

/- The disk as one sees it who knows it, step by step; what must be in any case (shown). -/
namespace Go.Am
open Go

structure FV where
  name : List UInt8
  a : Nat
  s : List UInt8
  syn : Nat
def DF.view (f : DF) : FV := ⟨f.name, f.a, f.s, f.syn⟩
def totV (fs : List FV) : Nat := (fs.map fun f => f.s.length).sum
def updV (a : Nat) (v' v : FV) : FV := if v.a = a then v' else v
def crV (ps : List (Nat × Nat)) (k : Int) (v : FV) : FV := ⟨v.name, v.a, v.s.take (v.syn + kept ps k v.a), v.syn + kept ps k v.a⟩

/-- A disk that is not armed, as one sees it. -/
structure Is (S : DS) (fs : List FV) (ps : List (Nat × Nat)) (cap : Int) (down : Bool) : Prop where
  vw : S.fs.map DF.view = fs
  ps : S.ps = ps
  cap : S.cap = cap
  down : S.down = down
  arm : S.armed = 0
  wf : Wf S

theorem totV_view (fs : List DF) : totV (fs.map DF.view) = tot fs := by
  unfold totV tot; rw [List.map_map]; rfl
theorem upd_view (fs : List DF) (a : Nat) (f' : DF) : (fs.map (updF a f')).map DF.view = (fs.map DF.view).map (updV a f'.view) := by
  rw [List.map_map, List.map_map]
  refine List.map_congr_left fun g _ => ?_
  show (updF a f' g).view = updV a f'.view g.view
  unfold updF updV
  show _ = if g.a = a then _ else _
  split <;> rfl
theorem nms_eq {fs : List DF} (h : (fs.map DF.name).Nodup) {f g : DF} (hf : f ∈ fs) (hg : g ∈ fs) (e : f.name = g.name) : f = g := by
  induction fs with
  | nil => cases hf
  | cons x r ih =>
    simp only [List.map_cons, List.nodup_cons] at h
    rcases List.mem_cons.1 hf with e1 | hf <;> rcases List.mem_cons.1 hg with e2 | hg
    · rw [e1, e2]
    · exact absurd (List.mem_map.2 ⟨g, hg, by rw [← e, e1]⟩) h.1
    · exact absurd (List.mem_map.2 ⟨f, hf, by rw [e, e2]⟩) h.1
    · exact ih h.2 hf hg

section
variable {B : Base} {G X Y : Heap} {d : Nat} {S : DS} {Q : AV → Heap → Prop} {fs : List FV} {ps : List (Nat × Nat)} {cap : Int} {dn : Bool}

theorem Is.idle (i : Is S fs ps cap false) : wr S = S ∧ wrUp S = true := wr_idle i.down (by rw [i.arm]; exact Int.le_refl 0)
theorem Is.tot (i : Is S fs ps cap dn) : tot S.fs = totV fs := by rw [← i.vw, totV_view]
theorem Is.mem (i : Is S fs ps cap dn) {v : FV} (hv : v ∈ fs) : ∃ f, f ∈ S.fs ∧ f.view = v := by
  rw [← i.vw] at hv; exact List.mem_map.1 hv
theorem Is.vmem (i : Is S fs ps cap dn) {f : DF} (hf : f ∈ S.fs) : f.view ∈ fs := by
  rw [← i.vw]; exact List.mem_map.2 ⟨f, hf, rfl⟩
theorem Is.one (i : Is S fs ps cap dn) (h : Dk G d S) {v : FV} (hv : v ∈ fs) {f : DF} (hf : f ∈ S.fs) (e : f.name = v.name) : f.view = v := by
  obtain ⟨g, hg, rfl⟩ := i.mem hv
  rw [nms_eq h.nms hf hg e]

theorem nw_ok {c : Int} (hc : 0 ≤ c ∧ c ≤ 9223372036854775807) (hq : ∀ G' d' S', G.length ≤ d' → Dk G' d' S' → Is S' [] [] c false → G.length ≤ G'.length → (∀ k, k < G.length → G'[k]? = G[k]?) → (∀ k, k < G.length → ¬ Own d' S' k) → Q (.ptr (some (.new d', 0))) G') : Cl B 12 [.int .i64 c] G Q := by
  refine f12_ok fun G' d' m' h1 h2 h3 h4 h5 => ?_
  have e : max c 0 = c := by omega
  rw [e] at h3
  refine hq G' d' _ h1 h3 ⟨rfl, rfl, rfl, rfl, rfl, ⟨fun p hp => (by cases hp), fun f hf => (by cases hf), by show (0 : Nat) ≤ _; omega, by show (0 : Nat) ≤ _; omega, hc, by show (_ : Int) ≤ 0 ∧ (0 : Int) ≤ _; omega, by show (_ : Int) ≤ 0 ∧ (0 : Int) ≤ _; omega⟩⟩ h4 h5 fun k hk ho => ?_
  rcases ho with e | e | ⟨f, hf, _⟩ | e
  · omega
  · have : k = m' := e
    omega
  · cases hf
  · cases e
theorem cr_ok (h : Dk G d S) (i : Is S fs ps cap false) {x : List UInt8} (hr : rightB x = true) (hno : ∀ v, v ∈ fs → v.name ≠ x) (hq : ∀ G' S' a, Nx G d S G' S' → Is S' (fs ++ [⟨x, a, [], 0⟩]) ps cap false → (∀ v, v ∈ fs → v.a ≠ a) → Q (.int .i64 0) G') :
    Cl B 13 [.ptr (some (.new d, 0)), .str x] G Q := by
  obtain ⟨e1, e2⟩ := i.idle
  refine f13_ok h i.wf (fun hu => by rw [e2] at hu; cases hu) (fun _ hr' => by rw [hr] at hr'; cases hr') (fun _ _ _ G' a ha hG => ?_) fun _ _ f hf hx => ?_
  · rw [e1] at hG ha
    refine hq G' _ a hG ⟨?_, i.ps, i.cap, i.down, i.arm, i.wf.create ha⟩ fun v hv => ?_
    · show (S.fs ++ [_]).map DF.view = _
      rw [List.map_append, i.vw]; rfl
    · obtain ⟨f, hf, rfl⟩ := i.mem hv
      exact ha f hf
  · rw [e1] at hf
    exact absurd hx (hno _ (i.vmem hf))
theorem ap_ok (h : Dk G d S) (i : Is S fs ps cap false) {x : List UInt8} {v : AV} {b : List UInt8} {a y : Nat} {s : List UInt8} (hb : Bs B G v b) (hv : NotOwn d S v) (hr : rightB x = true) (hf : (⟨x, a, s, y⟩ : FV) ∈ fs) (hfit : totV fs + b.length ≤ cap) (hsm : totV fs + b.length ≤ 70368744177664)
    (hp : ps.length < 1000000) (hq : ∀ G' S', Nx G d S G' S' → Is S' (fs.map (updV a ⟨x, a, s ++ b, y⟩)) (ps ++ [(a, b.length)]) cap false → Q (.int .i64 0) G') : Cl B 14 [.ptr (some (.new d, 0)), .str x, v] G Q := by
  obtain ⟨e1, e2⟩ := i.idle
  have et := i.tot
  refine f14_ok h i.wf hb hv (fun _ => by rw [et]; exact hsm) (fun hu => by rw [e2] at hu; cases hu) (fun _ hr' => by rw [hr] at hr'; cases hr') (fun _ _ hno => ?_) (fun _ _ f hf' hx hlt => ?_) fun _ _ f hf' hx _ G' o' po' hG => ?_
  · obtain ⟨g, hg, e⟩ := i.mem hf
    rw [e1] at hno
    exact absurd (show g.name = x from congrArg FV.name e) (hno g hg)
  · rw [et, i.cap] at hlt; omega
  · rw [e1] at hG hf'
    have e := i.one h hf hf' hx
    have ea : f.a = a := congrArg FV.a e
    have es : f.s = s := congrArg FV.s e
    have en : f.name = x := congrArg FV.name e
    have ey : f.syn = y := congrArg FV.syn e
    refine hq G' _ hG ⟨?_, ?_, i.cap, i.down, i.arm, i.wf.app h.ads hf' (by rw [et]; exact hsm) (by rw [i.ps]; exact hp)⟩
    · show (S.fs.map (updF f.a _)).map DF.view = _
      rw [upd_view, i.vw]
      show fs.map (updV f.a ⟨f.name, f.a, f.s ++ b, f.syn⟩) = _
      rw [en, ea, es, ey]
    · show S.ps ++ [(f.a, b.length)] = _
      rw [i.ps, ea]
theorem ap_full (h : Dk G d S) (i : Is S fs ps cap false) {x : List UInt8} {v : AV} {b : List UInt8} {w : FV} (hb : Bs B G v b) (hv : NotOwn d S v) (hr : rightB x = true) (hf : w ∈ fs) (hw : w.name = x) (hfit : cap < totV fs + b.length)
    (hq : ∀ G', Nx G d S G' S → Q (.int .i64 4) G') : Cl B 14 [.ptr (some (.new d, 0)), .str x, v] G Q := by
  obtain ⟨e1, e2⟩ := i.idle
  have et := i.tot
  refine f14_ok h i.wf hb hv (fun hlt => by rw [et, i.cap] at hlt; omega) (fun hu => by rw [e2] at hu; cases hu) (fun _ hr' => by rw [hr] at hr'; cases hr') (fun _ _ hno => ?_) (fun _ _ f hf' hx hlt G' hG => ?_) fun _ _ f hf' hx hlt G' o' po' hG => ?_
  · obtain ⟨g, hg, e⟩ := i.mem hf
    rw [e1] at hno
    refine absurd ?_ (hno g hg)
    rw [← hw, ← e]; rfl
  · rw [e1] at hG; exact hq G' hG
  · rw [et, i.cap] at hlt; omega
theorem sy_ok (h : Dk G d S) (i : Is S fs ps cap false) {x : List UInt8} {w : FV} (hr : rightB x = true) (hf : w ∈ fs) (hw : w.name = x) (hq : ∀ G' S', Nx G d S G' S' → Is S' (fs.map (updV w.a ⟨w.name, w.a, w.s, w.s.length⟩)) (ps.filter (notOf w.a)) cap false → Q (.int .i64 0) G') :
    Cl B 20 [.ptr (some (.new d, 0)), .str x] G Q := by
  obtain ⟨e1, e2⟩ := i.idle
  refine f20_ok h i.wf (fun hu => by rw [e2] at hu; cases hu) (fun _ hr' => by rw [hr] at hr'; cases hr') (fun _ _ hno => ?_) fun _ _ f hf' hx G' hG => ?_
  · obtain ⟨g, hg, e⟩ := i.mem hf
    rw [e1] at hno
    refine absurd ?_ (hno g hg)
    rw [← hw, ← e]; rfl
  · rw [e1] at hG hf'
    have e := i.one h hf hf' (by rw [hx, hw])
    subst e
    refine hq G' _ hG ⟨?_, ?_, i.cap, i.down, i.arm, i.wf.sync h.ads hf'⟩
    · show (S.fs.map (updF f.a _)).map DF.view = _
      rw [upd_view, i.vw]; rfl
    · show S.ps.filter _ = _
      rw [i.ps]; rfl
theorem cs_ok (h : Dk G d S) (i : Is S fs ps cap false) {k : Int} (hk : -9223372036854775808 ≤ k ∧ k ≤ 9223372036854775807) (hq : ∀ G' S', Nx G d S G' S' → Is S' (fs.map (crV ps k)) [] cap true → Q (.tuple []) G') : Cl B 15 [.ptr (some (.new d, 0)), .int .i64 k] G Q := by
  refine f15_ok h i.wf hk (fun hd => by rw [i.down] at hd; cases hd) fun _ G' hG => hq G' _ hG ⟨?_, rfl, i.cap, rfl, rfl, i.wf.crash k⟩
  show (S.fs.map _).map DF.view = _
  rw [← i.vw, List.map_map, List.map_map, ← i.ps]; rfl
theorem st_ok (h : Dk G d S) (i : Is S fs ps cap dn) (hq : ∀ G' S', Nx G d S G' S' → Is S' fs ps cap false → Q (.tuple []) G') : Cl B 16 [.ptr (some (.new d, 0))] G Q := by
  refine f16_ok h fun G' hG => hq G' _ hG ⟨i.vw, i.ps, i.cap, rfl, i.arm, ⟨i.wf.pin, i.wf.syl, i.wf.big, i.wf.psl, i.wf.cap0, i.wf.arm, i.wf.kpr⟩⟩
theorem rd_ok (h : Dk G d S) (i : Is S fs ps cap false) {x : List UInt8} {w : FV} (hr : rightB x = true) (hf : w ∈ fs) (hw : w.name = x) (hq : ∀ v G', Nx G d S G' S → Bs B G' v w.s → NotOwn d S v → Q (.tuple [v, .int .i64 0]) G') : Cl B 17 [.ptr (some (.new d, 0)), .str x] G Q := by
  have hbg := i.wf.big
  refine f17_ok h (by omega) (fun hd => by rw [i.down] at hd; cases hd) (fun _ hr' => by rw [hr] at hr'; cases hr') (fun _ _ hno => ?_) fun _ _ f hf' hx v L hv hn => ?_
  · obtain ⟨g, hg, e⟩ := i.mem hf
    refine absurd ?_ (hno g hg)
    rw [← hw, ← e]; rfl
  · have e := i.one h hf hf' (by rw [hx, hw])
    subst e
    exact hq v _ (Nx.app h L) hv hn
theorem rd_down (h : Dk G d S) (i : Is S fs ps cap true) {x : List UInt8} (hq : Q (.tuple [.nils, .int .i64 6]) G) : Cl B 17 [.ptr (some (.new d, 0)), .str x] G Q := by
  have hbg := i.wf.big
  exact f17_ok h (by omega) (fun _ => hq) (fun hd => by rw [i.down] at hd; cases hd) (fun hd => by rw [i.down] at hd; cases hd) fun hd => by rw [i.down] at hd; cases hd
theorem us_ok (h : Dk G d S) (i : Is S fs ps cap dn) (hq : Q (.int .i64 (totV fs : Int)) G) : Cl B 18 [.ptr (some (.new d, 0))] G Q := by
  have hbg := i.wf.big
  exact f18_ok h (by omega) (by rw [i.tot]; exact hq)
theorem up_ok (h : Dk G d S) (i : Is S fs ps cap dn) (hq : Q (.bool (!dn)) G) : Cl B 24 [.ptr (some (.new d, 0))] G Q := f24_ok h (by rw [i.down]; exact hq)

theorem op_conv {k off len es c : Nat} {cs : List AV} {K : AV → Heap → Prop} (hg : G[k]? = some (.arr cs)) (hc : 0 < c) (hk : K (.slice (.new k) off len es (some c)) G) : aop B E0 G K (.convL (.const (.slice (.new k) off len es (some c)))) := by
  simp only [aop, opK, Opd.look, ob_some, if_pos hc, hg]; exact hk
/-- Bytes that are written down: a slice of their own. -/
theorem lit_bytes {s : List UInt8} {c : List AV} (hc : c = (s.map brw).flatten) : Bs B (G ++ [.arr c]) (.slice (.new G.length) 0 s.length 1 (some s.length)) s := by
  have := sl_rows (B := B) (G := G) (es := 1) (k := s.length) (cap := s.length) (rows := s.map brw) (by rw [List.length_map]) hc (brws_len s)
  exact this
theorem lit_not (h : Dk G d S) {c : AObj} {len : Nat} {cp : Option Nat} : NotOwn d S (.slice (.new G.length) 0 len 1 cp) := fun k off l es cap e ho => by
  cases e
  have := h.lt ho
  omega
/-- What stands before a disk that is new stays. -/
theorem pre_of {H G : Heap} (hl : H.length ≤ G.length) (hs : ∀ k, k < H.length → G[k]? = H[k]?) : ∃ L, G = H ++ L := by
  refine ⟨G.drop H.length, List.ext_getElem? fun k => ?_⟩
  rcases Nat.lt_or_ge k H.length with h | h
  · rw [hs k h, List.getElem?_append_left h]
  · rw [List.getElem?_append_right h, List.getElem?_drop]; congr 1; omega

theorem shown_ok (hq : Q (.bool true) G) : Cl B 11 [] G Q := by
  refine f11_in fun n cl hn hcl hH hA => J11_9_in ?_
  subst hcl
  refine nw_ok (by omega) fun G0 d S0 hd h0 i0 hle0 hs0 ho0 => live_ptr (J11_8_in ?_)
  refine op_isNil (b := false) rfl ?_
  rw [pGuard_bool, bs_false]
  -- Create a
  refine cr_ok h0 i0 rfl (fun v hv => by cases hv) fun G1 S1 a1 h1 i1 _ => ?_
  rw [pInt_int]
  refine bs_of false rfl (fun e => by cases e) fun _ => ?_
  rw [show layParts [(.int .u8 0), (.int .u8 0), (.int .u8 0), (.int .u8 0), (.int .u8 0)] [(0, 1, .int .u8 (49)), (1, 1, .int .u8 (50)), (2, 1, .int .u8 (51)), (3, 1, .int .u8 (52)), (4, 1, .int .u8 (53))] = some [.int .u8 49, .int .u8 50, .int .u8 51, .int .u8 52, .int .u8 53] from rfl, ob_some]
  refine slK_in (op_conv get_app0 (by decide) ?_)
  have h1a := h1.trans (Nx.app h1.dk [.arr [.int .u8 49, .int .u8 50, .int .u8 51, .int .u8 52, .int .u8 53]])
  refine ap_ok (b := [49, 50, 51, 52, 53]) (a := a1) (s := []) (y := 0) h1a.dk i1 (lit_bytes rfl) (lit_not h1.dk (c := .gone)) rfl (by simp) (by simp [totV]) (by simp [totV]) (by simp) fun G2 S2 h2 i2 => ?_
  rw [pInt_int]
  refine bs_of false rfl (fun e => by cases e) fun _ => ?_
  simp only [List.nil_append, List.map_cons, List.map_nil, updV, if_true] at i2
  have h2' := h1a.trans h2
  -- Create b
  refine cr_ok h2.dk i2 rfl (by simp) fun G3 S3 a2 h3 i3 ha2 => ?_
  rw [pInt_int]
  refine bs_of false rfl (fun e => by cases e) fun _ => ?_
  have hne : a1 ≠ a2 := ha2 _ (List.mem_singleton.2 rfl)
  have h3' := h2'.trans h3
  rw [show layParts [(.int .u8 0), (.int .u8 0)] [(0, 1, .int .u8 (54)), (1, 1, .int .u8 (55))] = some [.int .u8 54, .int .u8 55] from rfl, ob_some]
  refine slK_in (op_conv get_app0 (by decide) ?_)
  have h3a := h3'.trans (Nx.app h3.dk [.arr [.int .u8 54, .int .u8 55]])
  refine ap_ok (b := [54, 55]) (a := a2) (s := []) (y := 0) h3a.dk i3 (lit_bytes rfl) (lit_not h3.dk (c := .gone)) rfl (by simp) (by simp [totV]) (by simp [totV]) (by simp) fun G4 S4 h4 i4 => ?_
  rw [pInt_int]
  refine bs_of false rfl (fun e => by cases e) fun _ => ?_
  simp only [List.nil_append, List.cons_append, List.map_cons, List.map_nil, updV, if_true, if_neg hne] at i4
  have h4' := h3a.trans h4
  rw [show layParts [(.int .u8 0)] [(0, 1, .int .u8 (56))] = some [.int .u8 56] from rfl, ob_some]
  refine slK_in (op_conv get_app0 (by decide) ?_)
  have h4a := h4'.trans (Nx.app h4.dk [.arr [.int .u8 56]])
  refine ap_ok (b := [56]) (a := a1) (s := [49, 50, 51, 52, 53]) (y := 0) h4a.dk i4 (lit_bytes rfl) (lit_not h4.dk (c := .gone)) rfl (by simp) (by simp [totV]) (by simp [totV]) (by simp) fun G5 S5 h5 i5 => ?_
  rw [pInt_int]
  refine bs_of false rfl (fun e => by cases e) fun _ => ?_
  simp only [List.cons_append, List.nil_append, List.map_cons, List.map_nil, updV, if_true, if_neg (Ne.symm hne)] at i5
  have h5' := h4a.trans h5
  -- Sync b
  refine sy_ok (w := ⟨[98], a2, [54, 55], 0⟩) h5.dk i5 rfl (by simp) rfl fun G6 S6 h6 i6 => ?_
  rw [pInt_int]
  refine ib_ne_no rfl (J11_0_in ?_)
  rw [pBool_bool, if_neg (by simp)]
  simp only [List.map_cons, List.map_nil, updV, if_true, if_neg hne] at i6
  have hn1 : notOf a2 (a1, 5) = true := by simp [notOf, hne]
  have hn2 : notOf a2 (a2, 2) = false := by simp [notOf]
  have hn3 : notOf a2 (a1, 1) = true := by simp [notOf, hne]
  have efl : [(a1, 5), (a2, 2), (a1, 1)].filter (notOf a2) = [(a1, 5), (a1, 1)] := by
    rw [List.filter_cons_of_pos hn1, List.filter_cons_of_neg (by rw [hn2]; simp), List.filter_cons_of_pos hn3]; rfl
  have i6 : Is S6 [⟨[97], a1, [49, 50, 51, 52, 53, 56], 0⟩, ⟨[98], a2, [54, 55], 2⟩] [(a1, 5), (a1, 1)] 10 false := ⟨i6.vw, i6.ps.trans efl, i6.cap, i6.down, i6.arm, i6.wf⟩
  have h6' := h5'.trans h6
  -- Read a
  refine J11_7_in (rd_ok (w := ⟨[97], a1, [49, 50, 51, 52, 53, 56], 0⟩) h6.dk i6 rfl (by simp) rfl fun v1 G7 h7 b1 n1 => live_tuple ?_)
  refine ext_other rfl (fun e => by subst e; obtain ⟨_, ⟨e, _⟩ | ⟨_, _, _, e, _⟩⟩ := b1 <;> cases e) (ext_int rfl (J11_6_in ?_))
  have h7' := h6'.trans h7
  refine cs_ok h7.dk i6 (by omega) fun G8 S8 h8 i8 => live_unit (J11_5_in ?_)
  have h8' := h7'.trans h8
  have b1' := b1.next n1 h8.fr
  have n1' := NotOwn.next b1 n1 h8.fr
  simp only [List.map_cons, List.map_nil, crV, kept, if_true, if_neg hne] at i8
  have ek1 : kp 5 5 = 5 := rfl
  have ek2 : kp (5 - ((5 : Nat) : Int)) 1 = 0 := rfl
  simp only [ek1, ek2, List.take_succ_cons, List.take_zero, Nat.add_zero, Nat.zero_add] at i8
  refine rd_down h8.dk i8 (live_tuple ?_)
  refine ext_other rfl (by simp) (ext_int rfl (J11_4_in ?_))
  refine st_ok h8.dk i8 fun G9 S9 h9 i9 => live_unit (J11_3_in ?_)
  have h9' := h8'.trans h9
  have b2' := b1'.next n1' h9.fr
  have n2' := NotOwn.next b1' n1' h9.fr
  refine rd_ok (w := ⟨[97], a1, [49, 50, 51, 52, 53], 5⟩) h9.dk i9 rfl (by simp) rfl fun v2 G10 h10 c1 m1 => live_tuple ?_
  refine ext_other rfl (fun e => by subst e; obtain ⟨_, ⟨e, _⟩ | ⟨_, _, _, e, _⟩⟩ := c1 <;> cases e) (ext_int rfl (J11_2_in ?_))
  have h10' := h9'.trans h10
  have b3' := b2'.next n2' h10.fr
  have n3' := NotOwn.next b2' n2' h10.fr
  refine rd_ok (w := ⟨[98], a2, [54, 55], 2⟩) h10.dk i9 rfl (by simp) rfl fun v3 G11 h11 e1 _ => live_tuple ?_
  refine ext_other rfl (fun e => by subst e; obtain ⟨_, ⟨e, _⟩ | ⟨_, _, _, e, _⟩⟩ := e1 <;> cases e) (ext_int rfl (J11_1_in ?_))
  have h11' := h10'.trans h11
  refine op_toStr (b3'.next n3' h11.fr) ?_
  rw [pStr_str, pStr_str]
  refine bs_of true rfl (fun _ => ?_) fun e => by cases e
  rw [pInt_int]
  refine bs_of true rfl (fun _ => ?_) fun e => by cases e
  refine op_toStr (c1.next m1 h11.fr) ?_
  rw [pStr_str, pStr_str]
  refine bs_of true rfl (fun _ => ?_) fun e => by cases e
  rw [pInt_int]
  refine bs_of true rfl (fun _ => ?_) fun e => by cases e
  refine op_toStr e1 ?_
  rw [pStr_str, pStr_str]
  refine bs_of true rfl (fun _ => ?_) fun e => by cases e
  rw [pInt_int]
  refine bs_of true rfl (fun _ => ?_) fun e => by cases e
  rw [show layParts [(.int .u8 0), (.int .u8 0), (.int .u8 0), (.int .u8 0)] [(0, 1, .int .u8 (49)), (1, 1, .int .u8 (50)), (2, 1, .int .u8 (51)), (3, 1, .int .u8 (52))] = some [.int .u8 49, .int .u8 50, .int .u8 51, .int .u8 52] from rfl, ob_some]
  refine slK_in (op_conv get_app0 (by decide) ?_)
  have h11a := h11'.trans (Nx.app h11.dk [.arr [.int .u8 49, .int .u8 50, .int .u8 51, .int .u8 52]])
  refine ap_full (b := [49, 50, 51, 52]) (w := ⟨[97], a1, [49, 50, 51, 52, 53], 5⟩) h11a.dk i9 (lit_bytes rfl) (lit_not h11.dk (c := .gone)) rfl (by simp) rfl (by simp [totV]) fun G12 h12 => ?_
  rw [pInt_int]
  refine bs_of true rfl (fun _ => ?_) fun e => by cases e
  have h12' := h11a.trans h12
  refine us_ok h12.dk i9 ?_
  rw [pInt_int]
  refine bs_of true rfl (fun _ => ?_) fun e => by cases e
  refine up_ok h12.dk i9 (tyK_bool ?_)
  obtain ⟨L, rfl⟩ := pre_of (Nat.le_trans hle0 h12'.fr.le) fun k hk => (h12'.fr.same k (Nat.lt_of_lt_of_le hk hle0) (ho0 k hk)).trans (hs0 k hk)
  exact tidy_drop hn hH low_bool hq
end
end Go.Am

/- What came later is lost first: the law DiskOrder, walked. -/
namespace Go.Am
open Go

/-! ### What is kept, piece by piece -/
def restK : List (Nat × Nat) → Int → Int
  | [], k => k
  | p :: r, k => restK r (k - kp k p.2)
theorem kept_app : ∀ (ps : List (Nat × Nat)) (p : Nat × Nat) (k : Int) (x : Nat), kept (ps ++ [p]) k x = kept ps k x + (if p.1 = x then kp (restK ps k) p.2 else 0)
  | [], p, k, x => by simp [kept, restK]
  | q :: r, p, k, x => by
    simp only [List.cons_append, kept, restK, kept_app r p]; omega
theorem rest_app : ∀ (ps : List (Nat × Nat)) (p : Nat × Nat) (k : Int), restK (ps ++ [p]) k = restK ps k - kp (restK ps k) p.2
  | [], p, k => rfl
  | q :: r, p, k => by simp only [List.cons_append, restK, rest_app r p]
/-- How the four files stand, and the texts that are wanted. -/
structure Want (ps : List (Nat × Nat)) (keep : Int) (ad : Nat → Nat) (s w : Nat → List UInt8) : Prop where
  inj : ∀ i j, i < 4 → j < 4 → ad i = ad j → i = j
  wk : ∀ k, k < 4 → w k = (s k).take (kept ps keep (ad k))
  full : 0 < restK ps keep → ∀ k, k < 4 → kept ps keep (ad k) = (s k).length
  le : ∀ k, k < 4 → kept ps keep (ad k) ≤ (s k).length
def updN (f : Nat → List UInt8) (k : Nat) (b : List UInt8) (j : Nat) : List UInt8 := if j = k then f k ++ b else f j
theorem Want.step {ps : List (Nat × Nat)} {keep : Int} {ad : Nat → Nat} {s w : Nat → List UInt8} (h : Want ps keep ad s w) {k : Nat} (hk : k < 4) (b : List UInt8) :
    Want (ps ++ [(ad k, b.length)]) keep ad (updN s k b) (updN w k (b.take (kp (restK ps keep) b.length))) := by
  have hkp := kp_le (restK ps keep) b.length
  refine ⟨h.inj, fun j hj => ?_, fun hr j hj => ?_, fun j hj => ?_⟩
  · rw [kept_app]
    by_cases e : j = k
    · subst e
      simp only [updN, if_true]
      rw [h.wk j hj]
      by_cases h0 : 0 < restK ps keep
      · have := h.full h0 j hj
        rw [this, List.take_length, List.take_length_add_append]
      · have : kp (restK ps keep) b.length = 0 := by unfold kp; omega
        have hl := h.le j hj
        rw [this, List.take_zero, List.append_nil, Nat.add_zero, List.take_append_of_le_length hl]
    · have : ¬ ad k = ad j := fun e' => e (h.inj j k hj hk e'.symm)
      simp only [updN, if_neg e, if_neg this, Nat.add_zero]
      exact h.wk j hj
  · rw [rest_app] at hr
    rw [kept_app]
    have hr' : 0 < restK ps keep - (kp (restK ps keep) b.length : Int) := hr
    have hkd : kp (restK ps keep) b.length = min (restK ps keep).toNat b.length := rfl
    have h0 : 0 < restK ps keep := by omega
    have hkb : kp (restK ps keep) b.length = b.length := by omega
    have := h.full h0 j hj
    by_cases e : j = k
    · subst e
      simp only [updN, if_true, hkb, List.length_append]; omega
    · have hne : ¬ ad k = ad j := fun e' => e (h.inj j k hj hk e'.symm)
      simp only [updN, if_neg e, if_neg hne]; omega
  · rw [kept_app]
    have := h.le j hj
    by_cases e : j = k
    · subst e
      simp only [updN, if_true, List.length_append]; omega
    · have hne : ¬ ad k = ad j := fun e' => e (h.inj j k hj hk e'.symm)
      simp only [updN, if_neg e, if_neg hne]; omega

def nm (k : Nat) : List UInt8 := [UInt8.ofNat (119 + k)]
def wcells (w : Nat → List UInt8) : List AV := [.str (w 0), .str (w 1), .str (w 2), .str (w 3)]
def ncells : List AV := [.str (nm 0), .str (nm 1), .str (nm 2), .str (nm 3)]
def zrow (c : Int) : List AV := [.int .i64 c]

section
variable {B : Base} {G X Y : Heap} {d q1 q2 : Nat} {S : DS} {Q : AV → Heap → Prop}

theorem base_not {v : AV} {s : List UInt8} (h : Bs B [] v s) : NotOwn d S v := fun k off len es cap e => by
  obtain ⟨_, ⟨rfl, _⟩ | ⟨o, off', cap', rfl, hc⟩⟩ := h
  · cases e
  · cases e
    obtain ⟨cs, h2, _⟩ := cellsAt_iff'.1 hc
    simp [cellsOf] at h2
theorem base_bs {v : AV} {s : List UInt8} (h : Bs B [] v s) : Bs B G v s := by
  have := h.pre (L := G)
  rwa [List.nil_append] at this
theorem base_sl {v : AV} {es : Nat} {rows : List (List AV)} (h : Sl B [] es v rows) : Sl B G es v rows := by
  have := h.pre (L := G)
  rwa [List.nil_append] at this
theorem sb_neq {a b : List UInt8} {K : AV → Prop} (h : K (.bool (!(a == b)))) : sbinK .neq a b K := bool_split (K := K) h
/-- The law's arguments. -/
structure In3 (B : Base) (x0 x1 : AV) (pcs : List (AV × List UInt8)) (ws : List Int) : Prop where
  sl : Sl B [] 1 x0 (pcs.map fun p => [p.1])
  bs : ∀ p, p ∈ pcs → Bs B [] p.1 p.2 ∧ p.2.length ≤ 1048576
  ws : Sl B [] 1 x1 (ws.map zrow)

/-- What the law holds between its steps. -/
structure At (G : Heap) (d q1 q2 : Nat) (S : DS) (w : Nat → List UInt8) : Prop where
  dk : Dk G d S
  n1 : G[q1]? = some (.arr ncells)
  o1 : ¬ Own d S q1
  n2 : G[q2]? = some (.var (wcells w))
  o2 : ¬ Own d S q2
theorem At.next {w : Nat → List UInt8} {G' : Heap} {S' : DS} (h : At G d q1 q2 S w) (hx : Nx G d S G' S') : At G' d q1 q2 S' w :=
  ⟨hx.dk, (hx.fr.get h.n1 h.o1).1, (hx.fr.get h.n1 h.o1).2, (hx.fr.get h.n2 h.o2).1, (hx.fr.get h.n2 h.o2).2⟩
theorem At.put {w : Nat → List UInt8} (h : At G d q1 q2 S w) (w' : Nat → List UInt8) : At (G.set q2 (.var (wcells w'))) d q1 q2 S w' :=
  ⟨h.dk.other h.o2, by rw [get_set_ne (get_ne h.n2 h.n1 (by simp))]; exact h.n1, h.o1, get_set (lt_of_get h.n2), h.o2⟩

theorem piece {x0 x1 : AV} {pcs : List (AV × List UInt8)} {ws : List Int} (hin : In3 B x0 x1 pcs ws) {i : Nat} {p : AV × List UInt8} (hi : pcs[i]? = some p) {K : AV → Prop} (h : K p.1) :
    aop B E0 G (fun v30 _ => ob (peek B G v30) fun c31 => pLive c31 K) (.indexPtr 1 (.const x0) (.const (.int .i64 (i : Int)))) := by
  have hs : Sl B G 1 x0 (pcs.map fun p => [p.1]) := base_sl hin.sl
  have hr : (pcs.map fun p => [p.1])[i]? = some [p.1] := by rw [List.getElem?_map, hi]; rfl
  have hl : i < pcs.length := (List.getElem?_eq_some_iff.1 hi).1
  refine op_idx hs (by rw [List.length_map]; exact hl) ?_
  rw [(hs.el hr).peek0 rfl, ob_some]
  exact (hin.bs p (List.mem_of_getElem? hi)).1.live K h

end
end Go.Am

/- The disk: List, Rename. -/
namespace Go.Am
open Go

/-! ### A region, step by step -/
section
variable {B : Base} {cl : CallK} {n : Nat} {H : Heap}
theorem rops {l : List AStep} {c : AC} {env : Env} {Q : KQ} (h : runG B cl l env H fun e h => awC B cl (ALoop n) c e h Q) : awC B cl (ALoop n) (.seq (.ops l) c) env H Q := h
theorem rop0 {i : Nat} {op : AOp} {r : List AStep} {env : Env} {K : Env → Heap → Prop} (h : aop B env H (fun v H' => runG B cl r (env.upd i v) H' K) op) : runG B cl (⟨some i, none, .op op⟩ :: r) env H K := h
theorem ropN {op : AOp} {r : List AStep} {env : Env} {K : Env → Heap → Prop} (h : aop B env H (fun _ H' => runG B cl r env H' K) op) : runG B cl (⟨none, none, .op op⟩ :: r) env H K := h
theorem tmov {t : Nat} {v : AV} {env : Env} {K : AV → Heap → Prop} (hv : env.f t = some v) (h : K v H) : aop B env H K (.mov (.tmp t)) := by
  simp only [aop, opK, Opd.look, hv, ob_some]; exact h
theorem tnil {t : Nat} {p : Id × Nat} {env : Env} {K : AV → Heap → Prop} (hv : env.f t = some (.ptr (some p))) (h : K (.ptr (some p)) H) : aop B env H K (.nilCheck (.tmp t)) := by
  simp only [aop, opK, Opd.look, hv, ob_some]; exact h
theorem tfld {t off i : Nat} {o : Id} {env : Env} {K : AV → Heap → Prop} (hv : env.f t = some (.ptr (some (o, i)))) (h : K (.ptr (some (o, i + off))) H) : aop B env H K (.fieldPtr off (.tmp t)) := by
  simp only [aop, opK, Opd.look, hv, ob_some]; exact h
theorem tld {t : Nat} {p v : AV} {env : Env} {K : AV → Heap → Prop} (hv : env.f t = some p) (hp : peek B H p = some v) (hl : v ≠ .dead) (h : K v H) : aop B env H K (.ld .other (.tmp t)) := by
  simp only [aop, opK, Opd.look, hv, ob_some, hp, tyK]; exact pLive_iff.2 ⟨hl, h⟩
theorem tset {t a b : Nat} {w k u : AV} {env : Env} {K : AV → Heap → Prop} (h1 : env.f t = some w) (h2 : env.f a = some k) (h3 : env.f b = some u) (h : aop B E0 H K (.mapSet .str (.const w) (.const k) (.const u))) : aop B env H K (.mapSet .str (.tmp t) (.tmp a) (.tmp b)) := by
  simp only [aop, opK, Opd.look, h1, h2, h3, ob_some] at h ⊢; exact h
end

section
variable {B : Base} {G X Y : Heap} {d : Nat} {S : DS} {Q : AV → Heap → Prop}

/-! ### List -/
theorem f22_ok (h : Dk G d S) (hn : S.fs.length ≤ 1000000) (hl : ∀ f, f ∈ S.fs → f.name.length ≤ 1000000) (h1 : S.down = true → Q .nils G) (h2 : S.down = false → S.fs = [] → Q .nils G)
    (h3 : S.down = false → S.fs ≠ [] → ∀ ss : List (List UInt8), ss.Perm (S.fs.map DF.name) → Q (.slice (.new G.length) 0 S.fs.length 1 none) (G ++ [.arr ((ss.mergeSort fun x y => decide (x ≤ y)).map AV.str)])) : Cl B 22 [.ptr (some (.new d, 0))] G Q := by
  refine ACall.intro (fn := aNames) rfl fun hH hA => ?_
  refine ⟨d, S.m, S.pv, .int .i64 S.cap, S.down, [.int .i64 S.armed, .int .i64 S.keep], S.fs.map DF.ent, S.clock, rfl, rfl, h.top, h.mp, fun e => tidy_none (h1 e), fun e => ⟨S.fs.map DF.name, ?_, h.nms, ?_, ?_, by rw [List.length_map]; exact hn, ?_, ?_, ?_⟩⟩
  · rw [List.map_map, List.map_map]; rfl
  · intro x hx
    obtain ⟨f, hf, rfl⟩ := List.mem_map.1 hx
    exact h.blt f hf
  · rw [List.map_map]; exact h.bns
  · intro s hs
    obtain ⟨f, hf, rfl⟩ := List.mem_map.1 hs
    exact hl f hf
  · intro e0
    exact tidy_none (h2 e (List.map_eq_nil_iff.1 e0))
  · intro e0 ss hs
    have := h3 e (fun e1 => e0 (by rw [e1]; rfl)) ss hs
    rw [List.length_map]
    exact tidy_none this

/-! ### Rename -/
/-- The map's files, told anew: each is one that was, perhaps by another name. -/
theorem Dk.remap (h : Dk G d S) {fs' : List DF} {clock' : Nat} (hs : ∀ g, g ∈ fs' → ∃ g0, g0 ∈ S.fs ∧ g0.a = g.a ∧ g0.o = g.o ∧ g0.s = g.s ∧ g0.syn = g.syn ∧ g0.z = g.z) (n1 : (fs'.map DF.name).Nodup) (n2 : (fs'.map DF.a).Nodup) (n3 : (fs'.map DF.born).Nodup) (n4 : ∀ g, g ∈ fs' → g.born < clock') :
    Nx G d S (G.set S.m (.map (fs'.map DF.ent) clock')) { S with fs := fs', clock := clock' } := by
  have hm := lt_of_get h.mp
  have key : ∀ {k : Nat} {o o2 : AObj}, G[k]? = some o → k ≠ S.m → (G.set S.m o2)[k]? = some o := fun hk hne => by rw [get_set_ne (Ne.symm hne)]; exact hk
  refine ⟨⟨key h.top (get_ne h.top h.mp (by simp [DS.obj])), get_set hm, fun g hg => ?_, fun g hg => ?_, ?_, n1, n2, n3, n4, fun g1 g2 hg1 hg2 k e1 e2 => ?_, fun g hg k e => ?_⟩, ⟨by simp, fun k hk hno => get_set_ne fun e => hno (.inr (.inl e.symm)), fun k hk => .inl ?_⟩⟩
  · obtain ⟨g0, h0, ea, eo, es, ey, ez⟩ := hs g hg
    have := key (o2 := .map (fs'.map DF.ent) clock') (h.fil g0 h0) (get_ne (h.fil g0 h0) h.mp (by simp [DF.obj]))
    rw [← ea, this]
    simp only [DF.obj, DF.v, eo, es, ey, ez]
  · obtain ⟨g0, h0, ea, eo, es, ey, ez⟩ := hs g hg
    have := h.row g0 h0
    rw [eo, es, ez] at this
    refine this.keep fun k e => ?_
    obtain ⟨c, hc⟩ := h.row_get h0 (eo.trans e)
    rw [hc]; exact key hc (get_ne hc h.mp (by simp))
  · refine h.pcs.keep fun k e => ?_
    obtain ⟨c, hc⟩ := h.pcs_get e
    rw [hc]; exact key hc (get_ne hc h.mp (by simp))
  · obtain ⟨g0, h0, ea, eo, _⟩ := hs g1 hg1
    obtain ⟨g3, h3, ea3, eo3, _⟩ := hs g2 hg2
    have := h.arr g0 g3 h0 h3 k (eo.trans e1) (eo3.trans e2)
    rw [← ea, ← ea3]; exact this
  · obtain ⟨g0, h0, ea, eo, _⟩ := hs g hg
    exact h.arp g0 h0 k (eo.trans e)
  · rcases hk with rfl | rfl | ⟨g, hg, hk⟩ | hk
    · exact .inl rfl
    · exact .inr (.inl rfl)
    · obtain ⟨g0, h0, ea, eo, _⟩ := hs g hg
      refine .inr (.inr (.inl ⟨g0, h0, ?_⟩))
      rcases hk with rfl | hk
      · exact .inl ea.symm
      · exact .inr (eo.trans hk)
    · exact .inr (.inr (.inr hk))
theorem erase_name {f : DF} : ∀ {fs : List DF} {j : Nat}, (fs.map DF.name).Nodup → fs[j]? = some f → fs.eraseIdx j = fs.filter fun g => !(g.name == f.name)
  | [], j, _, h => by simp at h
  | g :: r, 0, hn, h => by
    have : g = f := by simpa using h
    subst this
    simp only [List.map_cons, List.nodup_cons] at hn
    rw [List.eraseIdx_cons_zero, List.filter_cons_of_neg (by simp)]
    refine (List.filter_eq_self.2 fun x hx => ?_).symm
    have : x.name ≠ g.name := fun e => hn.1 (List.mem_map.2 ⟨x, hx, e⟩)
    simpa using this
  | g :: r, j + 1, hn, h => by
    simp only [List.map_cons, List.nodup_cons] at hn
    have h' : r[j]? = some f := by simpa using h
    have hne : g.name ≠ f.name := fun e => hn.1 (List.mem_map.2 ⟨f, List.mem_of_getElem? h', e.symm⟩)
    rw [List.eraseIdx_cons_succ, List.filter_cons_of_pos (by simpa using hne), erase_name hn.2 h']
theorem tot_name {f : DF} : ∀ {fs : List DF}, (fs.map DF.name).Nodup → f ∈ fs → tot (fs.filter fun g => !(g.name == f.name)) + f.s.length = tot fs
  | [], _, h => by cases h
  | g :: r, hn, h => by
    simp only [List.map_cons, List.nodup_cons] at hn
    rw [tot_cons]
    rcases List.mem_cons.1 h with e | h
    · subst e
      rw [List.filter_cons_of_neg (by simp), List.filter_eq_self.2 fun x hx => ?_]
      · omega
      · have : x.name ≠ f.name := fun e => hn.1 (List.mem_map.2 ⟨x, hx, e⟩)
        simpa using this
    · have hne : g.name ≠ f.name := fun e => hn.1 (List.mem_map.2 ⟨f, h, e.symm⟩)
      rw [List.filter_cons_of_pos (by simpa using hne), tot_cons]
      have := tot_name hn.2 h
      omega
theorem ads_of {fs : List DF} (hn : (fs.map DF.name).Nodup) (h : ∀ f g, f ∈ fs → g ∈ fs → f.a = g.a → f.name = g.name) : (fs.map DF.a).Nodup := by
  induction fs with
  | nil => exact List.nodup_nil
  | cons x r ih =>
    simp only [List.map_cons, List.nodup_cons] at hn ⊢
    refine ⟨fun hx => ?_, ih hn.2 fun f g hf hg => h f g (List.mem_cons_of_mem _ hf) (List.mem_cons_of_mem _ hg)⟩
    obtain ⟨g, hg, e⟩ := List.mem_map.1 hx
    exact hn.1 (List.mem_map.2 ⟨g, hg, h g x (List.mem_cons_of_mem _ hg) (List.mem_cons_self ..) e⟩)

def renTo (f : DF) (to : List UInt8) (b : Nat) : DF := { f with name := to, born := b }
/-- The files, where one takes another's place; where it takes a new one. -/
def renOld (S : DS) (f old : DF) (to : List UInt8) : DS := { S with ps := S.ps.filter (notOf old.a), fs := (S.fs.map (updF old.a (renTo f to old.born))).filter fun g => !(g.name == f.name) }
def renNew (S : DS) (f : DF) (to : List UInt8) : DS := { S with fs := (S.fs ++ [renTo f to S.clock]).filter (fun g => !(g.name == f.name)), clock := S.clock + 1 }

theorem modify_ent {old f : DF} {to : List UInt8} : ∀ {fs : List DF} {j : Nat}, (fs.map DF.a).Nodup → fs[j]? = some old → (fs.map DF.ent).modify j (fun e => (.str to, f.ptr, e.2.2)) = (fs.map (updF old.a (renTo f to old.born))).map DF.ent
  | [], j, _, h => by simp at h
  | g :: r, 0, hn, h => by
    have : g = old := by simpa using h
    subst this
    simp only [List.map_cons, List.nodup_cons] at hn
    have h1 : r.map (updF g.a (renTo f to g.born)) = r := by
      have : ∀ x, x ∈ r → updF g.a (renTo f to g.born) x = x := fun x hx => if_neg fun e => hn.1 (List.mem_map.2 ⟨x, hx, e⟩)
      rw [List.map_congr_left (g := id) this, List.map_id]
    simp only [List.map_cons, List.modify_zero_cons, h1]
    simp [updF, DF.ent, renTo, DF.ptr]
  | g :: r, j + 1, hn, h => by
    simp only [List.map_cons, List.nodup_cons] at hn
    have h' : r[j]? = some old := by simpa using h
    have hne : g.a ≠ old.a := fun e => hn.1 (List.mem_map.2 ⟨old, List.mem_of_getElem? h', e.symm⟩)
    simp only [List.map_cons, List.modify_succ_cons, modify_ent hn.2 h']
    simp [updF, hne]

theorem ren_old (h : Dk G d S) {f old : DF} {to : List UInt8} (hf : f ∈ S.fs) (ho : old ∈ S.fs) (hto : old.name = to) (hne : f.name ≠ to) {cl : CallK} {n : Nat} {from_ : List UInt8} (hfrom : f.name = from_)
    (hq : ∀ G', Nx G d S G' { S with fs := (S.fs.map (updF old.a (renTo f to old.born))).filter fun g => !(g.name == f.name) } → tidyK n Q (.int .i64 0) G') : J21_3 B cl n (.ptr (some (.new d, 0))) from_ to (.ptr (some (.new f.a, 0))) G Q := by
  have hoa : old.a ≠ f.a := fun e => hne (by rw [← hto, ads_eq h.ads ho hf e])
  obtain ⟨j, hj1, hj2⟩ := find_some 0 h.nms ho hto
  have n1 : ((S.fs.map (updF old.a (renTo f to old.born))).map DF.name).Nodup := by rw [updF_map h.ads ho DF.name (by show to = _; rw [hto])]; exact h.nms
  have n3 : ((S.fs.map (updF old.a (renTo f to old.born))).map DF.born).Nodup := by rw [updF_map (f' := renTo f to old.born) h.ads ho DF.born rfl]; exact h.bns
  have hf2 : f ∈ S.fs.map (updF old.a (renTo f to old.born)) := List.mem_map.2 ⟨f, hf, if_neg (Ne.symm hoa)⟩
  obtain ⟨i, hi1, hi2⟩ := find_some 0 n1 hf2 hfrom
  have hm := lt_of_get h.mp
  refine awC_keep.2 (rops ?_)
  refine rop0 (tmov (v := .ptr (some (.new d, 0))) rfl ?_)
  refine rop0 (tnil (p := (.new d, 0)) rfl ?_)
  refine rop0 (tfld (o := .new d) (i := 0) rfl ?_)
  refine rop0 (tld (v := .map (some (.new S.m))) rfl (peekV h.top rfl) (by simp) ?_)
  refine rop0 (tmov (v := .str to) rfl ?_)
  refine rop0 (tmov (v := .ptr (some (.new f.a, 0))) rfl ?_)
  refine ropN (tset (w := .map (some (.new S.m))) (k := .str to) (u := .ptr (some (.new f.a, 0))) rfl rfl rfl ?_)
  simp only [aop, opK, Opd.look, ob_some, h.mp, hj1, Nat.zero_add]
  have hent : (S.fs.map DF.ent).modify j (fun e => (.str to, AV.ptr (some (.new f.a, 0)), e.2.2)) = (S.fs.map (updF old.a (renTo f to old.born))).map DF.ent := modify_ent (f := f) (to := to) h.ads hj2
  rw [hent]
  have key : J21_2 B cl n (.ptr (some (.new d, 0))) from_ (G.set S.m (.map ((S.fs.map (updF old.a (renTo f to old.born))).map DF.ent) S.clock)) Q := by
    refine J21_2_in (op_get (off := 0) (v := .map (some (.new S.m))) (c := [.map (some (.new S.m)), S.pv, .int .i64 S.cap, .bool S.down, .int .i64 S.armed, .int .i64 S.keep]) ?_ rfl (live_map ?_))
    · rw [get_set_ne (Ne.symm (get_ne h.top h.mp (by simp [DS.obj])))]; exact h.top
    simp only [aop, opK, Opd.look, ob_some, get_set hm, hi1, Nat.zero_add, List.set_set]
    rw [map_erase, erase_name n1 hi2]
    refine hq _ (h.remap (fs' := (S.fs.map (updF old.a (renTo f to old.born))).filter fun g => !(g.name == f.name)) (clock' := S.clock) (fun g hg => ?_) (List.Nodup.sublist (List.Sublist.map _ List.filter_sublist) n1) ?_ (List.Nodup.sublist (List.Sublist.map _ List.filter_sublist) n3) fun g hg => ?_)
    · rcases updF_mem (List.mem_filter.1 hg).1 with rfl | ⟨hg, _⟩
      · exact ⟨f, hf, rfl, rfl, rfl, rfl, rfl⟩
      · exact ⟨g, hg, rfl, rfl, rfl, rfl, rfl⟩
    · refine ads_of (List.Nodup.sublist (List.Sublist.map _ List.filter_sublist) n1) fun g1 g2 h1 h2 e => ?_
      obtain ⟨m1, p1⟩ := List.mem_filter.1 h1
      obtain ⟨m2, p2⟩ := List.mem_filter.1 h2
      have q1 : g1.name ≠ f.name := by simpa using p1
      have q2 : g2.name ≠ f.name := by simpa using p2
      rcases updF_mem m1 with rfl | ⟨m1, x1⟩ <;> rcases updF_mem m2 with rfl | ⟨m2, x2⟩
      · rfl
      · exact absurd (by rw [ads_eq h.ads hf m2 e]) (Ne.symm q2)
      · exact absurd (by rw [ads_eq h.ads hf m1 e.symm]) (Ne.symm q1)
      · rw [ads_eq h.ads m1 m2 e]
    · rcases updF_mem (List.mem_filter.1 hg).1 with rfl | ⟨hg, _⟩
      · exact h.blt old ho
      · exact h.blt g hg
  exact key

theorem ren_new (h : Dk G d S) {f : DF} {to : List UInt8} (hf : f ∈ S.fs) (hto : ∀ g, g ∈ S.fs → g.name ≠ to) {cl : CallK} {n : Nat} {from_ : List UInt8} (hfrom : f.name = from_)
    (hq : ∀ G', Nx G d S G' (renNew S f to) → tidyK n Q (.int .i64 0) G') : J21_3 B cl n (.ptr (some (.new d, 0))) from_ to (.ptr (some (.new f.a, 0))) G Q := by
  have n1 : ((S.fs ++ [renTo f to S.clock]).map DF.name).Nodup := by
    rw [List.map_append, List.nodup_append]
    refine ⟨h.nms, by simp, fun a ha b hb => ?_⟩
    obtain ⟨g, hg, rfl⟩ := List.mem_map.1 ha
    have : b = to := by simpa [renTo] using hb
    rw [this]; exact hto g hg
  have n3 : ((S.fs ++ [renTo f to S.clock]).map DF.born).Nodup := by
    rw [List.map_append, List.nodup_append]
    refine ⟨h.bns, by simp, fun a ha b hb => ?_⟩
    obtain ⟨g, hg, rfl⟩ := List.mem_map.1 ha
    have : b = S.clock := by simpa [renTo] using hb
    have := h.blt g hg
    omega
  have hf2 : f ∈ S.fs ++ [renTo f to S.clock] := List.mem_append_left _ hf
  obtain ⟨i, hi1, hi2⟩ := find_some 0 n1 hf2 hfrom
  have hm := lt_of_get h.mp
  refine awC_keep.2 (rops ?_)
  refine rop0 (tmov (v := .ptr (some (.new d, 0))) rfl ?_)
  refine rop0 (tnil (p := (.new d, 0)) rfl ?_)
  refine rop0 (tfld (o := .new d) (i := 0) rfl ?_)
  refine rop0 (tld (v := .map (some (.new S.m))) rfl (peekV h.top rfl) (by simp) ?_)
  refine rop0 (tmov (v := .str to) rfl ?_)
  refine rop0 (tmov (v := .ptr (some (.new f.a, 0))) rfl ?_)
  refine ropN (tset (w := .map (some (.new S.m))) (k := .str to) (u := .ptr (some (.new f.a, 0))) rfl rfl rfl ?_)
  simp only [aop, opK, Opd.look, ob_some, h.mp, find_none 0 hto]
  have hent : S.fs.map DF.ent ++ [(.str to, AV.ptr (some (.new f.a, 0)), S.clock)] = (S.fs ++ [renTo f to S.clock]).map DF.ent := by rw [List.map_append]; rfl
  rw [hent]
  have key : J21_2 B cl n (.ptr (some (.new d, 0))) from_ (G.set S.m (.map ((S.fs ++ [renTo f to S.clock]).map DF.ent) (S.clock + 1))) Q := by
    refine J21_2_in (op_get (off := 0) (v := .map (some (.new S.m))) (c := [.map (some (.new S.m)), S.pv, .int .i64 S.cap, .bool S.down, .int .i64 S.armed, .int .i64 S.keep]) ?_ rfl (live_map ?_))
    · rw [get_set_ne (Ne.symm (get_ne h.top h.mp (by simp [DS.obj])))]; exact h.top
    simp only [aop, opK, Opd.look, ob_some, get_set hm, hi1, Nat.zero_add, List.set_set]
    rw [map_erase, erase_name n1 hi2]
    have mem : ∀ {g : DF}, g ∈ S.fs ++ [renTo f to S.clock] → g ∈ S.fs ∨ g = renTo f to S.clock := fun hg => by simpa using hg
    refine hq _ (h.remap (fs' := (S.fs ++ [renTo f to S.clock]).filter fun g => !(g.name == f.name)) (clock' := S.clock + 1) (fun g hg => ?_) (List.Nodup.sublist (List.Sublist.map _ List.filter_sublist) n1) ?_ (List.Nodup.sublist (List.Sublist.map _ List.filter_sublist) n3) fun g hg => ?_)
    · rcases mem (List.mem_filter.1 hg).1 with hg | rfl
      · exact ⟨g, hg, rfl, rfl, rfl, rfl, rfl⟩
      · exact ⟨f, hf, rfl, rfl, rfl, rfl, rfl⟩
    · refine ads_of (List.Nodup.sublist (List.Sublist.map _ List.filter_sublist) n1) fun g1 g2 h1 h2 e => ?_
      obtain ⟨m1, p1⟩ := List.mem_filter.1 h1
      obtain ⟨m2, p2⟩ := List.mem_filter.1 h2
      have q1 : g1.name ≠ f.name := by simpa using p1
      have q2 : g2.name ≠ f.name := by simpa using p2
      rcases mem m1 with m1 | rfl <;> rcases mem m2 with m2 | rfl
      · rw [ads_eq h.ads m1 m2 e]
      · exact absurd (by rw [ads_eq h.ads hf m1 e.symm]) (Ne.symm q1)
      · exact absurd (by rw [ads_eq h.ads hf m2 e]) (Ne.symm q2)
      · rfl
    · rcases mem (List.mem_filter.1 hg).1 with hg | rfl
      · have := h.blt g hg; omega
      · exact Nat.lt_succ_self _
  exact key

theorem f21_ok {x to : List UInt8} (h : Dk G d S) (w : Wf S) (hq1 : wrUp S = false → ∀ G', Nx G d S G' (wr S) → Q (.int .i64 6) G') (hq2 : wrUp S = true → rightB x = false → ∀ G', Nx G d S G' (wr S) → Q (.int .i64 1) G')
    (hq3 : wrUp S = true → rightB x = true → (∀ f, f ∈ (wr S).fs → f.name ≠ x) → ∀ G', Nx G d S G' (wr S) → Q (.int .i64 (if rightB to = true then 5 else 1)) G')
    (hq4 : wrUp S = true → rightB x = true → ∀ f, f ∈ (wr S).fs → f.name = x → rightB to = false → ∀ G', Nx G d S G' (wr S) → Q (.int .i64 1) G')
    (hq5 : wrUp S = true → rightB x = true → ∀ f, f ∈ (wr S).fs → f.name = x → rightB to = true → x = to → ∀ G', Nx G d S G' (wr S) → Q (.int .i64 0) G')
    (hq6 : wrUp S = true → rightB x = true → ∀ f, f ∈ (wr S).fs → f.name = x → rightB to = true → x ≠ to → ∀ old, old ∈ (wr S).fs → old.name = to → ∀ G', Nx G d S G' (renOld (wr S) f old to) → Q (.int .i64 0) G')
    (hq7 : wrUp S = true → rightB x = true → ∀ f, f ∈ (wr S).fs → f.name = x → rightB to = true → x ≠ to → (∀ g, g ∈ (wr S).fs → g.name ≠ to) → ∀ G', Nx G d S G' (renNew (wr S) f to) → Q (.int .i64 0) G') : Cl B 21 [.ptr (some (.new d, 0)), .str x, .str to] G Q := by
  refine f21_in fun n cl hn hcl hH hA => J21_7_in ?_
  subst hcl
  refine f36_ok h w (fun hu G' hG => live_tuple ?_) (fun hu hr G' hG => live_tuple ?_) (fun hu hr hno G' hG => live_tuple ?_) fun hu hr f hf hx G' hG => live_tuple ?_
  all_goals
    refine ext_other rfl (by simp) (ext_int rfl (J21_6_in ?_))
    rw [pInt_int]
  · refine bs_of false rfl (fun e => by cases e) fun _ => ?_
    rw [pInt_int]
    refine bs_of false rfl (fun e => by cases e) fun _ => J21_0_in ?_
    rw [pBool_bool, if_neg (by simp)]
    refine J21_5_in ?_
    rw [pInt_int]
    exact bs_of true rfl (fun _ => tidy_none (hq1 hu G' hG)) fun e => by cases e
  · refine bs_of false rfl (fun e => by cases e) fun _ => ?_
    rw [pInt_int]
    refine bs_of false rfl (fun e => by cases e) fun _ => J21_0_in ?_
    rw [pBool_bool, if_neg (by simp)]
    refine J21_5_in ?_
    rw [pInt_int]
    exact bs_of true rfl (fun _ => tidy_none (hq2 hu hr G' hG)) fun e => by cases e
  · have hq := hq3 hu hr hno G' hG
    refine bs_of true rfl (fun _ => f37_ok ?_) fun e => by cases e
    rw [pBool_bool]
    refine bs_iff.2 ⟨fun ht => ?_, fun ht => J21_0_in ?_⟩
    · rw [pInt_int]
      refine bs_of false rfl (fun e => by cases e) fun _ => J21_0_in ?_
      rw [pBool_bool, if_neg (by simp)]
      refine J21_5_in ?_
      rw [pInt_int]
      rw [if_pos ht] at hq
      exact bs_of true rfl (fun _ => tidy_none hq) fun e => by cases e
    · rw [pBool_bool, if_pos rfl]
      rw [if_neg (by simp [ht])] at hq
      exact tidy_none hq
  refine bs_of false rfl (fun e => by cases e) fun _ => ?_
  rw [pInt_int]
  refine bs_of true rfl (fun _ => f37_ok (tyK_bool (op_notB (J21_0_in ?_)))) fun e => by cases e
  rw [pBool_bool]
  cases ht : rightB to with
  | false =>
    rw [if_pos (show (!false) = true from rfl)]
    exact tidy_none (hq4 hu hr f hf hx ht G' hG)
  | true =>
    rw [if_neg (show ¬ (!true) = true by simp)]
    refine J21_5_in ?_
    rw [pInt_int]
    refine bs_of false rfl (fun e => by cases e) fun _ => ?_
    by_cases e : x = to
    · exact bs_of true (by simpa using e) (fun _ => tidy_none (hq5 hu hr f hf hx ht e G' hG)) fun e => by cases e
    refine bs_of false (by simpa using e) (fun e => by cases e) fun _ => J21_4_in ?_
    refine op_get (off := 0) hG.dk.top rfl (live_map ?_)
    have w' := w.wr
    have hpl := w'.psl
    refine op_look hG.dk (fun old ho hto => J21_1_in ?_) fun hto => J21_1_in ?_
    · have hnn : ∀ {K : AV → Heap → Prop}, K (.bool true) G' → aop B E0 G' K (.isNil .ptr true (.const old.ptr)) := fun hK => by
        simp only [aop, opK, Opd.look, ob_some, DF.ptr, nilOf]; exact hK
      refine hnn ?_
      rw [pBool_bool, if_pos rfl]
      refine f39_ok hG.dk w'.pin (by omega) ho fun G3 h3 => live_unit ?_
      have h4 := hG.trans h3
      refine ren_old (f := f) (old := old) h4.dk hf ho hto (by rw [hx]; exact e) hx fun G5 h5 => tidy_none (hq6 hu hr f hf hx ht e old ho hto G5 (h4.trans h5))
    · have hnn : ∀ {K : AV → Heap → Prop}, K (.bool false) G' → aop B E0 G' K (.isNil .ptr true (.const (.ptr none))) := fun hK => by
        simp only [aop, opK, Opd.look, ob_some, nilOf]; exact hK
      refine hnn ?_
      rw [pBool_bool, if_neg (by simp)]
      exact ren_new hG.dk hf hto hx fun G5 h5 => tidy_none (hq7 hu hr f hf hx ht e hto G5 (hG.trans h5))
end
end Go.Am

/- The disk as one sees it: List, Rename. A file keeps what it has under another name: the law DiskRenames, walked. -/
namespace Go.Am
open Go

section
variable {B : Base} {G X Y : Heap} {d : Nat} {S : DS} {Q : AV → Heap → Prop} {fs : List FV} {ps : List (Nat × Nat)} {cap : Int} {dn : Bool}

theorem Wf.renOld (w : Wf S) (h : Dk G d S) {f old : DF} {to : List UInt8} (hf : f ∈ S.fs) (ho : old ∈ S.fs) (hto : old.name = to) (hne : f.name ≠ to) : Wf (renOld S f old to) := by
  have hoa : old.a ≠ f.a := fun e => hne (by rw [← hto, ads_eq h.ads ho hf e])
  have n1 : ((S.fs.map (updF old.a (renTo f to old.born))).map DF.name).Nodup := by rw [updF_map h.ads ho DF.name (by show to = _; rw [hto])]; exact h.nms
  have hf2 : f ∈ S.fs.map (updF old.a (renTo f to old.born)) := List.mem_map.2 ⟨f, hf, if_neg (Ne.symm hoa)⟩
  have hnew : renTo f to old.born ∈ (S.fs.map (updF old.a (renTo f to old.born))).filter fun g => !(g.name == f.name) := List.mem_filter.2 ⟨List.mem_map.2 ⟨old, ho, if_pos rfl⟩, by simpa [renTo] using fun e => hne e.symm⟩
  refine ⟨fun p hp => ?_, fun g hg => ?_, ?_, Nat.le_trans (List.length_filter_le _ _) w.psl, w.cap0, w.arm, w.kpr⟩
  · obtain ⟨h1, h2⟩ := List.mem_filter.1 hp
    have h3 : p.1 ≠ old.a := by simpa [notOf] using h2
    obtain ⟨g, hg, e⟩ := w.pin p h1
    by_cases ef : g.a = f.a
    · exact ⟨_, hnew, by show f.a = p.1; rw [← ef, e]⟩
    · refine ⟨g, List.mem_filter.2 ⟨List.mem_map.2 ⟨g, hg, if_neg (by rw [e]; exact h3)⟩, ?_⟩, e⟩
      have : g.name ≠ f.name := fun e' => ef (by rw [nms_eq h.nms hg hf e'])
      simpa using this
  · have key : ∀ g0, g0 ∈ S.fs → g0.a ≠ old.a → g0.s.length = g0.syn + psum (S.ps.filter (notOf old.a)) g0.a := fun g0 h0 hne0 => by
      rw [psum_not, if_neg hne0]; exact w.syl g0 h0
    rcases updF_mem (List.mem_filter.1 hg).1 with rfl | ⟨hg, hne0⟩
    · exact key f hf (Ne.symm hoa)
    · exact key g hg hne0
  · have h1 := tot_upd (f' := renTo f to old.born) h.ads ho
    have h2 := tot_name n1 hf2
    have h3 := w.big
    have e : (renTo f to old.born).s = f.s := rfl
    rw [e] at h1
    show tot ((S.fs.map (updF old.a (renTo f to old.born))).filter fun g => !(g.name == f.name)) ≤ _
    omega
theorem Wf.renNew (w : Wf S) (h : Dk G d S) {f : DF} {to : List UInt8} (hf : f ∈ S.fs) (hto : ∀ g, g ∈ S.fs → g.name ≠ to) : Wf (renNew S f to) := by
  have n1 : ((S.fs ++ [renTo f to S.clock]).map DF.name).Nodup := by
    rw [List.map_append, List.nodup_append]
    refine ⟨h.nms, by simp, fun a ha b hb => ?_⟩
    obtain ⟨g, hg, rfl⟩ := List.mem_map.1 ha
    have : b = to := by simpa [renTo] using hb
    rw [this]; exact hto g hg
  have hf2 : f ∈ S.fs ++ [renTo f to S.clock] := List.mem_append_left _ hf
  have hne := hto f hf
  have hnew : renTo f to S.clock ∈ (S.fs ++ [renTo f to S.clock]).filter fun g => !(g.name == f.name) := List.mem_filter.2 ⟨by simp, by simpa [renTo] using fun e => hne e.symm⟩
  refine ⟨fun p hp => ?_, fun g hg => ?_, ?_, w.psl, w.cap0, w.arm, w.kpr⟩
  · obtain ⟨g, hg, e⟩ := w.pin p hp
    by_cases ef : g.a = f.a
    · exact ⟨_, hnew, by show f.a = p.1; rw [← ef, e]⟩
    · refine ⟨g, List.mem_filter.2 ⟨List.mem_append_left _ hg, ?_⟩, e⟩
      have : g.name ≠ f.name := fun e' => ef (by rw [nms_eq h.nms hg hf e'])
      simpa using this
  · have : g ∈ S.fs ∨ g = renTo f to S.clock := by simpa using (List.mem_filter.1 hg).1
    rcases this with hg | rfl
    · exact w.syl g hg
    · exact w.syl f hf
  · have h2 := tot_name n1 hf2
    have h3 := w.big
    have e : tot (S.fs ++ [renTo f to S.clock]) = tot S.fs + f.s.length := by simp [tot, renTo]
    show tot ((S.fs ++ [renTo f to S.clock]).filter fun g => !(g.name == f.name)) ≤ _
    omega

theorem bs_ne {v : AV} {s : List UInt8} (h : Bs B G v s) : v ≠ .dead := fun e => by
  subst e; obtain ⟨_, ⟨e, _⟩ | ⟨_, _, _, e, _⟩⟩ := h <;> cases e
end
end Go.Am

/- A name has from 1 to 64 bytes: the law DiskNames, walked. -/
namespace Go.Am
open Go

section
variable {B : Base} {G X Y : Heap} {d : Nat} {S : DS} {Q : AV → Heap → Prop} {fs : List FV} {ps : List (Nat × Nat)} {cap : Int} {dn : Bool}

end
end Go.Am

/- What one knows of the files of a disk, row by row, against what the disk has. -/
namespace Go.Am
open Go

/-- A row: a name (none: no file), what is synced, what is not; and where the file lies. -/
structure KR where
  nm : List UInt8
  su : List UInt8
  re : List UInt8
  a : Nat
def KR.row (k : KR) : List AV := [.str k.nm, .str k.su, .str k.re]
def KR.fv (k : KR) : FV := ⟨k.nm, k.a, k.su ++ k.re, k.su.length⟩
def KR.live (k : KR) : Bool := !(k.nm == [])
def vw (K : List KR) : List FV := (K.filter KR.live).map KR.fv

/-! ### Files as one sees them, one of them changed -/
theorem upd_perm {fs R : List FV} {u w : FV} (h : fs.Perm (u :: R)) (ha : (fs.map FV.a).Nodup) : (fs.map (updV u.a w)).Perm (w :: R) := by
  have ha' : ((u :: R).map FV.a).Nodup := ((h.map FV.a).nodup_iff).1 ha
  simp only [List.map_cons, List.nodup_cons] at ha'
  refine (h.map _).trans ?_
  have e : R.map (updV u.a w) = R := by
    conv => rhs; rw [← List.map_id R]
    refine List.map_congr_left fun g hg => ?_
    have : g.a ≠ u.a := fun e => ha'.1 (List.mem_map.2 ⟨g, hg, e⟩)
    simp [updV, this]
  rw [List.map_cons, e, updV, if_pos rfl]
theorem new_perm {fs R : List FV} {u w : FV} (h : fs.Perm (u :: R)) (hn : (fs.map FV.name).Nodup) (hw : w.name ≠ u.name) : ((fs ++ [w]).filter fun v => !(v.name == u.name)).Perm (w :: R) := by
  have hn' : ((u :: R).map FV.name).Nodup := ((h.map FV.name).nodup_iff).1 hn
  simp only [List.map_cons, List.nodup_cons] at hn'
  have e : R.filter (fun v => !(v.name == u.name)) = R := List.filter_eq_self.2 fun g hg => by
    have : g.name ≠ u.name := fun e => hn'.1 (List.mem_map.2 ⟨g, hg, e⟩)
    simp [this]
  rw [List.filter_append, List.filter_cons_of_pos (by simp [hw])]
  refine (((h.filter _)).append_right _).trans ?_
  rw [List.filter_cons_of_neg (by simp), e]
  exact List.perm_append_comm
theorem old_perm {fs R : List FV} {u o w : FV} (h : fs.Perm (u :: o :: R)) (ha : (fs.map FV.a).Nodup) (hn : (fs.map FV.name).Nodup) (hw : w.name = o.name) : ((fs.map (updV o.a w)).filter fun v => !(v.name == u.name)).Perm (w :: R) := by
  have ha' : ((u :: o :: R).map FV.a).Nodup := ((h.map FV.a).nodup_iff).1 ha
  have hn' : ((u :: o :: R).map FV.name).Nodup := ((h.map FV.name).nodup_iff).1 hn
  simp only [List.map_cons, List.nodup_cons, List.mem_cons, not_or] at ha' hn'
  refine ((h.map _).filter _).trans ?_
  have e : (R.map (updV o.a w)).filter (fun v => !(v.name == u.name)) = R := by
    have : R.map (updV o.a w) = R := by
      conv => rhs; rw [← List.map_id R]
      refine List.map_congr_left fun g hg => ?_
      have : g.a ≠ o.a := fun e => ha'.2.1 (List.mem_map.2 ⟨g, hg, e⟩)
      simp [updV, this]
    rw [this]
    refine List.filter_eq_self.2 fun g hg => ?_
    have : g.name ≠ u.name := fun e => hn'.1.2 (List.mem_map.2 ⟨g, hg, e⟩)
    simp [this]
  have h1 : updV o.a w u = u := if_neg ha'.1.1
  have h2 : updV o.a w o = w := if_pos rfl
  rw [List.map_cons, List.map_cons, h1, h2, List.filter_cons_of_neg (by simp), List.filter_cons_of_pos (by simp [hw, Ne.symm hn'.1.1]), e]

/-! ### What is kept in all -/
end Go.Am

/- What was synced lasts: the law DiskLasts; its arguments, what it holds between its steps, the searching of a name. -/
namespace Go.Am
open Go

/-- A step, raw. -/
structure OpR where
  kind : Int
  n : Int
  m : Int
  nm : List UInt8
  to : List UInt8
  bv : AV
  b : List UInt8
def OpR.row (o : OpR) : List AV := [.int .i64 o.kind, .int .i64 o.n, .int .i64 o.m, .str o.nm, .str o.to, o.bv]
theorem set_cell {es : Nat} {t : List AV} : ∀ {rows : List (List AV)} {i off : Nat} {row : List AV} {w : AV}, (∀ r, r ∈ rows → r.length = es) → rows[i]? = some row → off < es → (rows.flatten ++ t).set (i * es + off) w = (rows.set i (row.set off w)).flatten ++ t
  | [], i, off, row, w, _, h, _ => by simp at h
  | r :: rs, 0, off, row, w, hl, h, ho => by
    have h0 := hl r (List.mem_cons_self ..)
    have e : r = row := by simpa using h
    subst e
    simp only [Nat.zero_mul, Nat.zero_add, List.set_cons_zero, List.flatten_cons, List.append_assoc]
    rw [List.set_append_left _ _ (by omega)]
  | r :: rs, i + 1, off, row, w, hl, h, ho => by
    have h0 := hl r (List.mem_cons_self ..)
    have ih := set_cell (t := t) (w := w) (rows := rs) (i := i) (off := off) (fun x hx => hl x (List.mem_cons_of_mem _ hx)) (by simpa using h) ho
    simp only [List.set_cons_succ, List.flatten_cons, List.append_assoc]
    have e1 : (i + 1) * es + off = r.length + (i * es + off) := by rw [h0, Nat.add_mul]; omega
    rw [e1, List.set_append_right _ _ (by omega), Nat.add_sub_cancel_left, ih]
theorem putAt_cell {l : List AV} {i : Nat} {v : AV} (h : i < l.length) : putAt l i [v] = l.set i v := by
  simp only [putAt, List.length_singleton]
  rw [List.set_eq_take_append_cons_drop, if_pos h]
  simp

section
variable {B : Base} {G X Y : Heap} {d : Nat} {S : DS} {Q : AV → Heap → Prop} {fs : List FV} {ps : List (Nat × Nat)} {cap : Int} {dn : Bool}

theorem KR.rows_len (K : List KR) : ∀ r, r ∈ K.map KR.row → r.length = 3 := fun r hr => by
  obtain ⟨p, _, rfl⟩ := List.mem_map.1 hr; rfl

/-- What the law holds between its steps: the disk, its own rows. -/
structure At6 (G : Heap) (d : Nat) (S : DS) (o : Option Nat) (K : List KR) : Prop where
  dk : Dk G d S
  row : RowAt G o (K.map KR.row)
  own : ∀ q, o = some q → ¬ Own d S q
theorem At6.sl {o : Option Nat} {K : List KR} (h : At6 G d S o K) : Sl B G 3 (rowV o K.length 3) (K.map KR.row) := by
  have := h.row.sl (B := B) (KR.rows_len K)
  rwa [List.length_map] at this
theorem At6.next {o : Option Nat} {K : List KR} {G' : Heap} {S' : DS} (h : At6 G d S o K) (hx : Nx G d S G' S') : At6 G' d S' o K := by
  have hq : ∀ q, o = some q → q < G.length := fun q e => by have := h.row; rw [e] at this; exact this.lt
  refine ⟨hx.dk, h.row.keep fun q e => hx.fr.same q (hq q e) (h.own q e), fun q e ho => ?_⟩
  rcases hx.fr.own q ho with h1 | h1
  · exact h.own q e h1
  · have := hq q e; omega
/-- A cell of them is written. -/
theorem At6.put {o : Option Nat} {K : List KR} (h : At6 G d S o K) {i off : Nat} {k k' : KR} {w : AV} (hi : K[i]? = some k) (ho : off < 3) (hw : k.row.set off w = k'.row) (hc : w.cells? = some [w]) {K' : Heap → Prop} (hk : ∀ G', At6 G' d S o (K.set i k') → K' G') :
    aop B E0 G (fun p _ => aop B E0 G (fun q _ => aop B E0 G (fun _ H2 => K' H2) (.st 1 (.const q) (.const w))) (.fieldPtr off (.const p))) (.indexPtr 3 (.const (rowV o K.length 3)) (.const (.int .i64 (i : Int)))) := by
  have hl : i < K.length := (List.getElem?_eq_some_iff.1 hi).1
  have hs : Sl B G 3 (rowV o K.length 3) (K.map KR.row) := h.sl
  have hir : (K.map KR.row)[i]? = some k.row := by rw [List.getElem?_map, hi]; rfl
  refine op_idx hs (by rw [List.length_map]; exact hl) (op_fld (hs.el hir) ?_)
  cases o with
  | none =>
    have := h.row
    have : K.map KR.row = [] := this
    rw [this] at hir; cases hir
  | some q =>
    obtain ⟨dk, row, own⟩ := h
    obtain ⟨t, hq⟩ := row
    have hlen : ((K.map KR.row).flatten ++ t).length = K.length * 3 + t.length := by rw [List.length_append, flatten_len (KR.rows_len K), List.length_map]
    have hb : i * 3 + off < ((K.map KR.row).flatten ++ t).length := by rw [hlen]; omega
    refine op_st_arr (k := q) (i := 0 + i * 3 + off) (vs := [w]) hc rfl hq (by omega) (hk _ ⟨dk.other (own q rfl), ⟨t, ?_⟩, own⟩)
    rw [get_set (lt_of_get hq), Nat.zero_add, putAt_cell hb, set_cell (KR.rows_len K) hir ho, hw, List.map_set]

theorem Is.names (i : Is S fs ps cap dn) (h : Dk G d S) : (fs.map FV.name).Nodup := by
  rw [← i.vw, List.map_map]; exact h.nms
theorem Is.ads (i : Is S fs ps cap dn) (h : Dk G d S) : (fs.map FV.a).Nodup := by
  rw [← i.vw, List.map_map]; exact h.ads
end
end Go.Am

/- A disk without its places: what each call does to it, and what it answers. -/
namespace Go.Am
open Go

/-- A disk: its files by numbers, what is not synced, and the rest. -/
structure AD where
  fs : List FV
  ps : List (Nat × Nat)
  cap : Int
  down : Bool
  armed : Int
  keep : Int
  next : Nat

namespace AD
def find (A : AD) (x : List UInt8) : Option FV := A.fs.find? fun v => v.name == x
def crash (A : AD) (k : Int) : AD := if A.down = true then A else { A with fs := A.fs.map (crV A.ps k), ps := [], down := true, armed := 0 }
def wr (A : AD) : AD := if A.down = true then A else if 0 < A.armed then (if A.armed = 1 then A.crash A.keep else { A with armed := A.armed - 1 }) else A
def up (A : AD) : Bool := !A.down && decide (A.armed ≠ 1)
/-- A call that writes to the file of a name. -/
def call (A : AD) (x : List UInt8) (none : AD → Int × AD) (some : AD → FV → Int × AD) : Int × AD :=
  if A.up = false then (6, A.wr) else if rightB x = false then (1, A.wr) else match A.wr.find x with
    | .none => none A.wr
    | .some v => some A.wr v
def create (A : AD) (x : List UInt8) : Int × AD := A.call x (fun (A : AD) => (0, { A with fs := A.fs ++ [(⟨x, A.next, [], 0⟩ : FV)], next := A.next + 1 })) fun A _ => (7, A)
def append (A : AD) (x b : List UInt8) : Int × AD := A.call x (fun A => (5, A)) fun A v => if A.cap < totV A.fs + b.length then (4, A) else (0, { A with fs := A.fs.map (updV v.a ⟨v.name, v.a, v.s ++ b, v.syn⟩), ps := A.ps ++ [(v.a, b.length)] })
def sync (A : AD) (x : List UInt8) : Int × AD := A.call x (fun A => (5, A)) fun A v => (0, { A with fs := A.fs.map (updV v.a ⟨v.name, v.a, v.s, v.s.length⟩), ps := A.ps.filter (notOf v.a) })
def delete (A : AD) (x : List UInt8) : Int × AD := A.call x (fun A => (5, A)) fun A v => (0, { A with fs := A.fs.filter fun g => !(g.a == v.a), ps := A.ps.filter (notOf v.a) })
def rename (A : AD) (x to : List UInt8) : Int × AD := A.call x (fun A => (if rightB to = true then 5 else 1, A)) fun A v => if rightB to = false then (1, A) else if x = to then (0, A) else match A.find to with
  | .some o => (0, { A with fs := (A.fs.map (updV o.a ⟨to, v.a, v.s, v.syn⟩)).filter fun g => !(g.name == x), ps := A.ps.filter (notOf o.a) })
  | .none => (0, { A with fs := (A.fs ++ [(⟨to, v.a, v.s, v.syn⟩ : FV)]).filter fun g => !(g.name == x) })
def start (A : AD) : AD := { A with down := false }
def arm (A : AD) (n k : Int) : AD := { A with armed := max n 0, keep := k }
def read (A : AD) (x : List UInt8) : List UInt8 × Int := if A.down = true then ([], 6) else if rightB x = false then ([], 1) else match A.find x with
  | .none => ([], 5)
  | .some v => (v.s, 0)
def names (A : AD) : List (List UInt8) := if A.down = true then [] else (A.fs.map FV.name).mergeSort fun x y => decide (x ≤ y)
def new (c : Int) : AD := ⟨[], [], max c 0, false, 0, 0, 0⟩
end AD

def DF.at (φ : Nat → Nat) (f : DF) : FV := ⟨f.name, φ f.a, f.s, f.syn⟩
def pat (φ : Nat → Nat) (p : Nat × Nat) : Nat × Nat := (φ p.1, p.2)
/-- A disk in memory is such a one. -/
structure SimF (φ : Nat → Nat) (S : DS) (A : AD) : Prop where
  fs : (S.fs.map (DF.at φ)).Perm A.fs
  ps : S.ps.map (pat φ) = A.ps
  cap : S.cap = A.cap
  down : S.down = A.down
  armed : S.armed = A.armed
  keep : S.keep = A.keep
  inj : ∀ f g, f ∈ S.fs → g ∈ S.fs → φ f.a = φ g.a → f.a = g.a
  lt : ∀ f, f ∈ S.fs → φ f.a < A.next
  wf : Wf S
def Sim (S : DS) (A : AD) : Prop := ∃ φ, SimF φ S A

section
variable {φ : Nat → Nat} {S : DS} {A : AD}

theorem kept_pat {As : List Nat} (hi : ∀ a b, a ∈ As → b ∈ As → φ a = φ b → a = b) {x : Nat} (hx : x ∈ As) : ∀ (ps : List (Nat × Nat)) (k : Int), (∀ p, p ∈ ps → p.1 ∈ As) → kept (ps.map (pat φ)) k (φ x) = kept ps k x
  | [], _, _ => rfl
  | p :: r, k, h => by
    have ih := kept_pat hi hx r (k - kp k p.2) fun q hq => h q (List.mem_cons_of_mem _ hq)
    have hp := h p List.mem_cons_self
    show (if φ p.1 = φ x then kp k p.2 else 0) + kept (r.map (pat φ)) (k - kp k p.2) (φ x) = (if p.1 = x then kp k p.2 else 0) + kept r (k - kp k p.2) x
    rw [ih]
    by_cases e : p.1 = x
    · rw [if_pos e, if_pos (by rw [e])]
    · rw [if_neg e, if_neg fun e' => e (hi _ _ hp hx e')]
theorem not_pat {As : List Nat} (hi : ∀ a b, a ∈ As → b ∈ As → φ a = φ b → a = b) {x : Nat} (hx : x ∈ As) {ps : List (Nat × Nat)} (h : ∀ p, p ∈ ps → p.1 ∈ As) : (ps.filter (notOf x)).map (pat φ) = (ps.map (pat φ)).filter (notOf (φ x)) := by
  rw [List.filter_map]
  congr 1
  refine List.filter_congr fun p hp => ?_
  simp only [Function.comp, notOf, pat]
  by_cases e : p.1 = x
  · simp [e]
  · have : φ p.1 ≠ φ x := fun e' => e (hi _ _ (h p hp) hx e')
    rw [beq_false_of_ne e, beq_false_of_ne this]
theorem SimF.pin (m : SimF φ S A) : ∀ p, p ∈ S.ps → p.1 ∈ S.fs.map DF.a := fun p hp => by
  obtain ⟨f, hf, e⟩ := m.wf.pin p hp
  exact List.mem_map.2 ⟨f, hf, e⟩
theorem SimF.injA (m : SimF φ S A) : ∀ a b, a ∈ S.fs.map DF.a → b ∈ S.fs.map DF.a → φ a = φ b → a = b := fun a b ha hb e => by
  obtain ⟨f, hf, rfl⟩ := List.mem_map.1 ha
  obtain ⟨g, hg, rfl⟩ := List.mem_map.1 hb
  exact m.inj f g hf hg e
theorem SimF.tot (m : SimF φ S A) : tot S.fs = totV A.fs := by
  rw [← totV_perm' m.fs]
  unfold totV Go.Am.tot
  rw [List.map_map]; rfl
where
  totV_perm' {a b : List FV} (h : a.Perm b) : totV a = totV b := (h.map _).sum_nat
theorem SimF.crash (m : SimF φ S A) (hd : S.down = false) (k : Int) : SimF φ (crash S k) (A.crash k) := by
  have e : A.crash k = { A with fs := A.fs.map (crV A.ps k), ps := [], down := true, armed := 0 } := by unfold AD.crash; rw [if_neg (by rw [← m.down, hd]; simp)]
  rw [e]
  refine ⟨?_, rfl, m.cap, rfl, rfl, m.keep, fun f g hf hg e => ?_, fun f hf => ?_, m.wf.crash k⟩
  · show ((S.fs.map _).map _).Perm _
    have := m.fs.map (crV A.ps k)
    refine List.Perm.trans ?_ this
    rw [List.map_map, List.map_map, List.map_congr_left fun f hf => ?_]
    have hx : f.a ∈ S.fs.map DF.a := List.mem_map.2 ⟨f, hf, rfl⟩
    have := kept_pat m.injA hx S.ps k m.pin
    rw [m.ps] at this
    show (⟨f.name, φ f.a, f.s.take (f.syn + kept S.ps k f.a), f.syn + kept S.ps k f.a⟩ : FV) = ⟨f.name, φ f.a, f.s.take (f.syn + kept A.ps k (φ f.a)), f.syn + kept A.ps k (φ f.a)⟩
    rw [this]
  · obtain ⟨f', hf', rfl⟩ := List.mem_map.1 hf
    obtain ⟨g', hg', rfl⟩ := List.mem_map.1 hg
    exact m.inj f' g' hf' hg' e
  · obtain ⟨f', hf', rfl⟩ := List.mem_map.1 hf
    exact m.lt f' hf'
theorem SimF.up (m : SimF φ S A) : wrUp S = A.up := by unfold wrUp AD.up; rw [m.down, m.armed]
theorem SimF.wr (m : SimF φ S A) : SimF φ (wr S) A.wr := by
  by_cases hd : S.down = true
  · have e1 : Go.Am.wr S = S := if_pos hd
    have e2 : A.wr = A := if_pos (by rw [← m.down]; exact hd)
    rw [e1, e2]; exact m
  have hd' : S.down = false := by simpa using hd
  by_cases h0 : 0 < S.armed
  · by_cases h1 : S.armed = 1
    · rw [wr_one hd' h1]
      have e2 : A.wr = A.crash A.keep := by unfold AD.wr; rw [← m.down, if_neg hd, ← m.armed, if_pos h0, if_pos h1]
      rw [e2, ← m.keep]
      exact m.crash hd' _
    · rw [wr_arm hd' h0 h1]
      have e2 : A.wr = { A with armed := A.armed - 1 } := by unfold AD.wr; rw [← m.down, if_neg hd, ← m.armed, if_pos h0, if_neg h1]
      rw [e2]
      have w := m.wf.wr
      rw [wr_arm hd' h0 h1] at w
      exact ⟨m.fs, m.ps, m.cap, m.down, by show S.armed - 1 = A.armed - 1; rw [m.armed], m.keep, m.inj, m.lt, w⟩
  · have e1 : Go.Am.wr S = S := by unfold Go.Am.wr; rw [if_neg hd, if_neg h0]
    have e2 : A.wr = A := by unfold AD.wr; rw [← m.down, if_neg hd, ← m.armed, if_neg h0]
    rw [e1, e2]; exact m
theorem SimF.mem (m : SimF φ S A) {f : DF} (hf : f ∈ S.fs) : f.at φ ∈ A.fs := m.fs.mem_iff.1 (List.mem_map.2 ⟨f, hf, rfl⟩)
theorem SimF.back (m : SimF φ S A) {v : FV} (hv : v ∈ A.fs) : ∃ f, f ∈ S.fs ∧ f.at φ = v := List.mem_map.1 (m.fs.mem_iff.2 hv)
theorem SimF.find_none (m : SimF φ S A) {x : List UInt8} (h : ∀ f, f ∈ S.fs → f.name ≠ x) : A.find x = none := by
  refine List.find?_eq_none.2 fun v hv e => ?_
  obtain ⟨f, hf, rfl⟩ := m.back hv
  exact h f hf (show (f.at φ).name = x from by simpa using e)
theorem SimF.find_some (m : SimF φ S A) (hn : (S.fs.map DF.name).Nodup) {x : List UInt8} {f : DF} (hf : f ∈ S.fs) (hx : f.name = x) : A.find x = some (f.at φ) := by
  unfold AD.find
  cases h : A.fs.find? fun v => v.name == x with
  | none =>
    have := List.find?_eq_none.1 h _ (m.mem hf)
    exact absurd (by simpa [DF.at] using hx) this
  | some v =>
    have h1 := List.mem_of_find?_eq_some h
    have h2 : v.name = x := by simpa using List.find?_some h
    obtain ⟨g, hg, rfl⟩ := m.back h1
    rw [nms_eq hn hg hf (by rw [hx]; exact h2)]

theorem SimF.updM (m : SimF φ S A) {f f' : DF} (hf : f ∈ S.fs) : ((S.fs.map (updF f.a f')).map (DF.at φ)).Perm (A.fs.map (updV (φ f.a) (f'.at φ))) := by
  refine List.Perm.trans ?_ (m.fs.map (updV (φ f.a) (f'.at φ)))
  rw [List.map_map, List.map_map, List.map_congr_left fun g hg => ?_]
  show (updF f.a f' g).at φ = updV (φ f.a) (f'.at φ) (g.at φ)
  have hga : (g.at φ).a = φ g.a := rfl
  unfold updF updV
  rw [hga]
  by_cases e : g.a = f.a
  · rw [if_pos e, if_pos (by rw [e])]
  · rw [if_neg e, if_neg fun e' => e (m.inj g f hg hf e')]
theorem SimF.create (m : SimF φ S A) {x : List UInt8} {a : Nat} (ha : ∀ f, f ∈ S.fs → f.a ≠ a) :
    SimF (fun k => if k = a then A.next else φ k) { S with fs := S.fs ++ [⟨x, a, none, [], 0, S.clock, none⟩], clock := S.clock + 1 } { A with fs := A.fs ++ [⟨x, A.next, [], 0⟩], next := A.next + 1 } := by
  have hφ : ∀ f, f ∈ S.fs → (if f.a = a then A.next else φ f.a) = φ f.a := fun f hf => if_neg (ha f hf)
  refine ⟨?_, ?_, m.cap, m.down, m.armed, m.keep, fun f g hf hg e => ?_, fun f hf => ?_, m.wf.create ha⟩
  · show ((S.fs ++ [_]).map _).Perm _
    rw [List.map_append]
    refine List.Perm.append ?_ ?_
    · refine List.Perm.trans ?_ m.fs
      rw [List.map_congr_left fun f hf => ?_]
      show (⟨f.name, if f.a = a then A.next else φ f.a, f.s, f.syn⟩ : FV) = ⟨f.name, φ f.a, f.s, f.syn⟩
      rw [hφ f hf]
    · show List.Perm [(⟨x, if a = a then A.next else φ a, [], 0⟩ : FV)] _
      rw [if_pos rfl]
  · show S.ps.map _ = A.ps
    rw [← m.ps]
    refine List.map_congr_left fun p hp => ?_
    obtain ⟨f, hf, e⟩ := m.wf.pin p hp
    show (if p.1 = a then A.next else φ p.1, p.2) = (φ p.1, p.2)
    rw [← e, hφ f hf]
  · have hf' : f ∈ S.fs ∨ f = ⟨x, a, none, [], 0, S.clock, none⟩ := by simpa using hf
    have hg' : g ∈ S.fs ∨ g = ⟨x, a, none, [], 0, S.clock, none⟩ := by simpa using hg
    rcases hf' with hf' | rfl <;> rcases hg' with hg' | rfl
    · simp only [hφ f hf', hφ g hg'] at e
      exact m.inj f g hf' hg' e
    · simp only [hφ f hf', if_true] at e
      have := m.lt f hf'; omega
    · simp only [hφ g hg', if_true] at e
      have := m.lt g hg'; omega
    · rfl
  · have hf' : f ∈ S.fs ∨ f = ⟨x, a, none, [], 0, S.clock, none⟩ := by simpa using hf
    rcases hf' with hf' | rfl
    · show (if f.a = a then A.next else φ f.a) < A.next + 1
      rw [hφ f hf']; have := m.lt f hf'; omega
    · show (if a = a then A.next else φ a) < A.next + 1
      rw [if_pos rfl]; omega
theorem SimF.app (m : SimF φ S A) (hA : (S.fs.map DF.a).Nodup) {f : DF} (hf : f ∈ S.fs) {b : List UInt8} {o' po' : Option Nat} (hb : Go.Am.tot S.fs + b.length ≤ 70368744177664) (hp : S.ps.length < 1000000) :
    SimF φ (appS S f o' po' b) { A with fs := A.fs.map (updV (φ f.a) ⟨f.name, φ f.a, f.s ++ b, f.syn⟩), ps := A.ps ++ [(φ f.a, b.length)] } := by
  refine ⟨m.updM hf, ?_, m.cap, m.down, m.armed, m.keep, fun g1 g2 h1 h2 e => ?_, fun g hg => ?_, m.wf.app hA hf hb hp⟩
  · show (S.ps ++ [(f.a, b.length)]).map _ = _
    rw [List.map_append, m.ps]; rfl
  · rcases updF_mem h1 with rfl | ⟨h1, _⟩ <;> rcases updF_mem h2 with rfl | ⟨h2, _⟩
    · rfl
    · exact m.inj f g2 hf h2 e
    · exact m.inj g1 f h1 hf e
    · exact m.inj g1 g2 h1 h2 e
  · rcases updF_mem hg with rfl | ⟨hg, _⟩
    · exact m.lt f hf
    · exact m.lt g hg
theorem SimF.sync (m : SimF φ S A) (hA : (S.fs.map DF.a).Nodup) {f : DF} (hf : f ∈ S.fs) :
    SimF φ (syncS S f) { A with fs := A.fs.map (updV (φ f.a) ⟨f.name, φ f.a, f.s, f.s.length⟩), ps := A.ps.filter (notOf (φ f.a)) } := by
  have hx : f.a ∈ S.fs.map DF.a := List.mem_map.2 ⟨f, hf, rfl⟩
  refine ⟨m.updM hf, ?_, m.cap, m.down, m.armed, m.keep, fun g1 g2 h1 h2 e => ?_, fun g hg => ?_, m.wf.sync hA hf⟩
  · show (S.ps.filter _).map _ = _
    rw [not_pat m.injA hx m.pin, m.ps]
  · rcases updF_mem h1 with rfl | ⟨h1, _⟩ <;> rcases updF_mem h2 with rfl | ⟨h2, _⟩
    · rfl
    · exact m.inj f g2 hf h2 e
    · exact m.inj g1 f h1 hf e
    · exact m.inj g1 g2 h1 h2 e
  · rcases updF_mem hg with rfl | ⟨hg, _⟩
    · exact m.lt f hf
    · exact m.lt g hg
theorem SimF.del (m : SimF φ S A) {f : DF} (hf : f ∈ S.fs) : SimF φ (delS S f) { A with fs := A.fs.filter fun g => !(g.a == φ f.a), ps := A.ps.filter (notOf (φ f.a)) } := by
  have hx : f.a ∈ S.fs.map DF.a := List.mem_map.2 ⟨f, hf, rfl⟩
  refine ⟨?_, ?_, m.cap, m.down, m.armed, m.keep, fun g1 g2 h1 h2 e => m.inj g1 g2 (List.mem_filter.1 h1).1 (List.mem_filter.1 h2).1 e, fun g hg => m.lt g (List.mem_filter.1 hg).1, m.wf.del⟩
  · refine List.Perm.trans ?_ (m.fs.filter _)
    show ((S.fs.filter _).map _).Perm _
    rw [List.filter_map, List.filter_congr fun g hg => ?_]
    show (!(g.a == f.a)) = !(φ g.a == φ f.a)
    by_cases e : g.a = f.a
    · simp [e]
    · have : φ g.a ≠ φ f.a := fun e' => e (m.inj g f hg hf e')
      rw [beq_false_of_ne e, beq_false_of_ne this]
  · show (S.ps.filter _).map _ = _
    rw [not_pat m.injA hx m.pin, m.ps]
end
end Go.Am

/- A disk without its places: the calls of the program do what is said. -/
namespace Go.Am
open Go

section
variable {φ : Nat → Nat} {B : Base} {G G' X Y : Heap} {d : Nat} {S S' : DS} {Q : AV → Heap → Prop} {A : AD}

theorem SimF.renOld (m : SimF φ S A) (h : Dk G d S) {f old : DF} {to : List UInt8} (hf : f ∈ S.fs) (ho : old ∈ S.fs) (hto : old.name = to) (hne : f.name ≠ to) :
    SimF φ (renOld S f old to) { A with fs := (A.fs.map (updV (φ old.a) ⟨to, φ f.a, f.s, f.syn⟩)).filter fun g => !(g.name == f.name), ps := A.ps.filter (notOf (φ old.a)) } := by
  have hx : old.a ∈ S.fs.map DF.a := List.mem_map.2 ⟨old, ho, rfl⟩
  have hback : ∀ g, g ∈ (Go.Am.renOld S f old to).fs → ∃ g0, g0 ∈ S.fs ∧ g0.a = g.a := fun g hg => by
    rcases updF_mem (List.mem_filter.1 hg).1 with rfl | ⟨hg, _⟩
    · exact ⟨f, hf, rfl⟩
    · exact ⟨g, hg, rfl⟩
  refine ⟨?_, ?_, m.cap, m.down, m.armed, m.keep, fun g1 g2 h1 h2 e => ?_, fun g hg => ?_, m.wf.renOld h hf ho hto hne⟩
  · have h1 := (m.updM (f' := renTo f to old.born) ho).filter fun v => !(v.name == f.name)
    refine List.Perm.trans ?_ h1
    show (((S.fs.map (updF old.a (renTo f to old.born))).filter _).map _).Perm _
    have e2 := List.filter_map (f := DF.at φ) (p := fun v : FV => !(v.name == f.name)) (l := S.fs.map (updF old.a (renTo f to old.born)))
    rw [e2]
    exact List.Perm.refl _
  · show (S.ps.filter _).map _ = _
    rw [not_pat m.injA hx m.pin, m.ps]
  · obtain ⟨x1, hx1, e1⟩ := hback g1 h1
    obtain ⟨x2, hx2, e2⟩ := hback g2 h2
    rw [← e1, ← e2] at e ⊢
    exact m.inj x1 x2 hx1 hx2 e
  · obtain ⟨x1, hx1, e1⟩ := hback g hg
    rw [← e1]; exact m.lt x1 hx1
theorem SimF.renNew (m : SimF φ S A) (h : Dk G d S) {f : DF} {to : List UInt8} (hf : f ∈ S.fs) (hto : ∀ g, g ∈ S.fs → g.name ≠ to) :
    SimF φ (renNew S f to) { A with fs := (A.fs ++ [(⟨to, φ f.a, f.s, f.syn⟩ : FV)]).filter fun g => !(g.name == f.name) } := by
  have hback : ∀ g, g ∈ (Go.Am.renNew S f to).fs → ∃ g0, g0 ∈ S.fs ∧ g0.a = g.a := fun g hg => by
    have : g ∈ S.fs ∨ g = renTo f to S.clock := by simpa using (List.mem_filter.1 hg).1
    rcases this with hg | rfl
    · exact ⟨g, hg, rfl⟩
    · exact ⟨f, hf, rfl⟩
  refine ⟨?_, m.ps, m.cap, m.down, m.armed, m.keep, fun g1 g2 h1 h2 e => ?_, fun g hg => ?_, m.wf.renNew h hf hto⟩
  · have h1 := (m.fs.append_right [(⟨to, φ f.a, f.s, f.syn⟩ : FV)]).filter fun v => !(v.name == f.name)
    refine List.Perm.trans ?_ h1
    show (((S.fs ++ [renTo f to S.clock]).filter _).map _).Perm _
    have e : S.fs.map (DF.at φ) ++ [(⟨to, φ f.a, f.s, f.syn⟩ : FV)] = (S.fs ++ [renTo f to S.clock]).map (DF.at φ) := by rw [List.map_append]; rfl
    rw [e, List.filter_map]
    exact List.Perm.refl _
  · obtain ⟨x1, hx1, e1⟩ := hback g1 h1
    obtain ⟨x2, hx2, e2⟩ := hback g2 h2
    rw [← e1, ← e2] at e ⊢
    exact m.inj x1 x2 hx1 hx2 e
  · obtain ⟨x1, hx1, e1⟩ := hback g hg
    rw [← e1]; exact m.lt x1 hx1

theorem call_down {x : List UInt8} {k1 : AD → Int × AD} {k2 : AD → FV → Int × AD} (h : A.up = false) : A.call x k1 k2 = (6, A.wr) := if_pos h
theorem call_bad {x : List UInt8} {k1 : AD → Int × AD} {k2 : AD → FV → Int × AD} (h : A.up = true) (hr : rightB x = false) : A.call x k1 k2 = (1, A.wr) := by
  unfold AD.call; rw [if_neg (by simp [h]), if_pos hr]
theorem call_none {x : List UInt8} {k1 : AD → Int × AD} {k2 : AD → FV → Int × AD} (h : A.up = true) (hr : rightB x = true) (hf : A.wr.find x = none) : A.call x k1 k2 = k1 A.wr := by
  unfold AD.call; rw [if_neg (by simp [h]), if_neg (by simp [hr]), hf]
theorem call_some {x : List UInt8} {k1 : AD → Int × AD} {k2 : AD → FV → Int × AD} {v : FV} (h : A.up = true) (hr : rightB x = true) (hf : A.wr.find x = some v) : A.call x k1 k2 = k2 A.wr v := by
  unfold AD.call; rw [if_neg (by simp [h]), if_neg (by simp [hr]), hf]

/-- What a call answers and leaves. -/
def Ans (G : Heap) (d : Nat) (S : DS) (r : Int × AD) (Q : AV → Heap → Prop) : Prop := ∀ G' S', Nx G d S G' S' → Sim S' r.2 → Q (.int .i64 r.1) G'
theorem Ans.go {r : Int × AD} (hq : Ans G d S r Q) {c : Int} {A' : AD} (e : r = (c, A')) (h : Nx G d S G' S') (m : SimF φ S' A') : Q (.int .i64 c) G' := by
  subst e; exact hq G' S' h ⟨φ, m⟩

theorem Dk.wrn (h : Dk G d S) (w : Wf S) : ((wr S).fs.map DF.name).Nodup := by
  have e : (wr S).fs.map DF.name = S.fs.map DF.name := by
    unfold wr
    split
    · rfl
    · split
      · split
        · show (S.fs.map _).map _ = _
          rw [List.map_map]; rfl
        · rfl
      · rfl
  rw [e]; exact h.nms

theorem dCreate (h : Dk G d S) (m0 : Sim S A) {x : List UInt8} (hq : Ans G d S (A.create x) Q) : Cl B 13 [.ptr (some (.new d, 0)), .str x] G Q := by
  obtain ⟨φ, m⟩ := m0
  have mw := m.wr
  have hu := m.up
  refine f13_ok h m.wf (fun e G' hG => ?_) (fun e hr G' hG => ?_) (fun e hr hno G' a ha hG => ?_) fun e hr f hf hx G' hG => ?_
  · exact hq.go (call_down (by rw [← hu, e])) hG mw
  · exact hq.go (call_bad (by rw [← hu, e]) hr) hG mw
  · exact hq.go (call_none (by rw [← hu, e]) hr (mw.find_none hno)) hG (mw.create ha)
  · exact hq.go (call_some (by rw [← hu, e]) hr (mw.find_some (h.wrn m.wf) hf hx)) hG mw
theorem dAppend (h : Dk G d S) (m0 : Sim S A) {x : List UInt8} {v : AV} {b : List UInt8} (hb : Bs B G v b) (hv : NotOwn d S v) (hbig : totV A.fs + b.length ≤ A.cap → totV A.fs + b.length ≤ 70368744177664) (hps : A.ps.length < 1000000) (hq : Ans G d S (A.append x b) Q) : Cl B 14 [.ptr (some (.new d, 0)), .str x, v] G Q := by
  obtain ⟨φ, m⟩ := m0
  have mw := m.wr
  have hu := m.up
  have ht := m.tot
  refine f14_ok h m.wf hb hv (fun hfit => by rw [ht] at hfit ⊢; rw [m.cap] at hfit; exact hbig hfit) (fun e G' hG => ?_) (fun e hr G' hG => ?_) (fun e hr hno G' hG => ?_) (fun e hr f hf hx hlt G' hG => ?_) fun e hr f hf hx hle G' o' po' hG => ?_
  · exact hq.go (call_down (by rw [← hu, e])) hG mw
  · exact hq.go (call_bad (by rw [← hu, e]) hr) hG mw
  · exact hq.go (call_none (by rw [← hu, e]) hr (mw.find_none hno)) hG mw
  all_goals
    obtain ⟨e1, e2, e3⟩ := wr_fs e
    have htw := mw.tot
    rw [e1, ht] at htw
    have hcw := mw.cap
    rw [e3, m.cap] at hcw
  · refine hq.go ((call_some (by rw [← hu, e]) hr (mw.find_some (h.wrn m.wf) hf hx)).trans (if_pos ?_)) hG mw
    rw [← hcw, ← htw, ← m.cap, ← ht]; exact hlt
  · refine hq.go ((call_some (by rw [← hu, e]) hr (mw.find_some (h.wrn m.wf) hf hx)).trans (if_neg ?_)) hG (mw.app (by rw [e1]; exact h.ads) hf ?_ ?_)
    · rw [← hcw, ← htw, ← m.cap, ← ht]; omega
    · rw [e1, ht]; exact hbig (by rw [← ht, ← m.cap]; exact hle)
    · rw [e2, show S.ps.length = A.ps.length by rw [← m.ps, List.length_map]]; exact hps
theorem dSync (h : Dk G d S) (m0 : Sim S A) {x : List UInt8} (hq : Ans G d S (A.sync x) Q) : Cl B 20 [.ptr (some (.new d, 0)), .str x] G Q := by
  obtain ⟨φ, m⟩ := m0
  have mw := m.wr
  have hu := m.up
  refine f20_ok h m.wf (fun e G' hG => ?_) (fun e hr G' hG => ?_) (fun e hr hno G' hG => ?_) fun e hr f hf hx G' hG => ?_
  · exact hq.go (call_down (by rw [← hu, e])) hG mw
  · exact hq.go (call_bad (by rw [← hu, e]) hr) hG mw
  · exact hq.go (call_none (by rw [← hu, e]) hr (mw.find_none hno)) hG mw
  · obtain ⟨e1, _⟩ := wr_fs e
    exact hq.go (call_some (by rw [← hu, e]) hr (mw.find_some (h.wrn m.wf) hf hx)) hG (mw.sync (by rw [e1]; exact h.ads) hf)
theorem dDelete (h : Dk G d S) (m0 : Sim S A) {x : List UInt8} (hq : Ans G d S (A.delete x) Q) : Cl B 19 [.ptr (some (.new d, 0)), .str x] G Q := by
  obtain ⟨φ, m⟩ := m0
  have mw := m.wr
  have hu := m.up
  refine f19_ok h m.wf (fun e G' hG => ?_) (fun e hr G' hG => ?_) (fun e hr hno G' hG => ?_) fun e hr f hf hx G' hG => ?_
  · exact hq.go (call_down (by rw [← hu, e])) hG mw
  · exact hq.go (call_bad (by rw [← hu, e]) hr) hG mw
  · exact hq.go (call_none (by rw [← hu, e]) hr (mw.find_none hno)) hG mw
  · exact hq.go (call_some (by rw [← hu, e]) hr (mw.find_some (h.wrn m.wf) hf hx)) hG (mw.del hf)
theorem Dk.wrD (h : Dk G d S) (hu : wrUp S = true) : ∃ G', Dk G' d (wr S) := by
  simp only [wrUp, Bool.and_eq_true, Bool.not_eq_true', decide_eq_true_eq] at hu
  by_cases h0 : 0 < S.armed
  · rw [wr_arm hu.1 h0 hu.2]
    exact ⟨_, (h.set (S' := { S with armed := S.armed - 1 }) rfl rfl rfl rfl rfl).dk⟩
  · rw [(wr_idle hu.1 (by omega)).1]
    exact ⟨G, h⟩
theorem dRename (h : Dk G d S) (m0 : Sim S A) {x to : List UInt8} (hq : Ans G d S (A.rename x to) Q) : Cl B 21 [.ptr (some (.new d, 0)), .str x, .str to] G Q := by
  obtain ⟨φ, m⟩ := m0
  have mw := m.wr
  have hu := m.up
  refine f21_ok h m.wf (fun e G' hG => ?_) (fun e hr G' hG => ?_) (fun e hr hno G' hG => ?_) (fun e hr f hf hx ht G' hG => ?_) (fun e hr f hf hx ht exy G' hG => ?_) (fun e hr f hf hx ht exy old hold hto G' hG => ?_) fun e hr f hf hx ht exy hno G' hG => ?_
  · exact hq.go (call_down (by rw [← hu, e])) hG mw
  · exact hq.go (call_bad (by rw [← hu, e]) hr) hG mw
  · exact hq.go (call_none (by rw [← hu, e]) hr (mw.find_none hno)) hG mw
  · exact hq.go ((call_some (by rw [← hu, e]) hr (mw.find_some (h.wrn m.wf) hf hx)).trans (if_pos ht)) hG mw
  · exact hq.go ((call_some (by rw [← hu, e]) hr (mw.find_some (h.wrn m.wf) hf hx)).trans ((if_neg (by simp [ht])).trans (if_pos exy))) hG mw
  all_goals
    have hw := mw.find_some (h.wrn m.wf) hf hx
    have hne : f.name ≠ to := by rw [hx]; exact exy
    obtain ⟨G1, h1⟩ := h.wrD e
  · refine hq.go (Eq.trans (call_some (by rw [← hu, e]) hr hw) ((if_neg (by simp [ht])).trans ((if_neg exy).trans ?_))) hG (mw.renOld h1 hf hold hto hne)
    rw [mw.find_some (h.wrn m.wf) hold hto, hx]
    rfl
  · refine hq.go (Eq.trans (call_some (by rw [← hu, e]) hr hw) ((if_neg (by simp [ht])).trans ((if_neg exy).trans ?_))) hG (mw.renNew h1 hf hno)
    rw [mw.find_none hno, hx]
    rfl
theorem dCrash (h : Dk G d S) (m0 : Sim S A) {k : Int} (hk : -9223372036854775808 ≤ k ∧ k ≤ 9223372036854775807) (hq : ∀ G' S', Nx G d S G' S' → Sim S' (A.crash k) → Q (.tuple []) G') : Cl B 15 [.ptr (some (.new d, 0)), .int .i64 k] G Q := by
  obtain ⟨φ, m⟩ := m0
  refine f15_ok h m.wf hk (fun e => hq G S (Nx.rfl' h) ⟨φ, ?_⟩) fun e G' hG => hq G' _ hG ⟨φ, m.crash e k⟩
  have : A.crash k = A := if_pos (by rw [← m.down]; exact e)
  rw [this]; exact m
theorem dStart (h : Dk G d S) (m0 : Sim S A) (hq : ∀ G' S', Nx G d S G' S' → Sim S' A.start → Q (.tuple []) G') : Cl B 16 [.ptr (some (.new d, 0))] G Q := by
  obtain ⟨φ, m⟩ := m0
  exact f16_ok h fun G' hG => hq G' _ hG ⟨φ, m.fs, m.ps, m.cap, rfl, m.armed, m.keep, m.inj, m.lt, ⟨m.wf.pin, m.wf.syl, m.wf.big, m.wf.psl, m.wf.cap0, m.wf.arm, m.wf.kpr⟩⟩
theorem dArm (h : Dk G d S) (m0 : Sim S A) {n k : Int} (hn : -9223372036854775808 ≤ n ∧ n ≤ 9223372036854775807) (hk : -9223372036854775808 ≤ k ∧ k ≤ 9223372036854775807) (hq : ∀ G' S', Nx G d S G' S' → Sim S' (A.arm n k) → Q (.tuple []) G') : Cl B 26 [.ptr (some (.new d, 0)), .int .i64 n, .int .i64 k] G Q := by
  obtain ⟨φ, m⟩ := m0
  refine f26_in fun l cl hl hcl hH hA => ?_
  subst hcl
  have hx : maxInts n [0] = max n 0 := by simp only [maxInts]; split <;> omega
  rw [hx]
  have h1 : Nx G d S (G.set d (.var (List.set [.map (some (.new S.m)), S.pv, .int .i64 S.cap, .bool S.down, .int .i64 S.armed, .int .i64 S.keep] 4 (.int .i64 (max n 0))))) { S with armed := max n 0 } := h.set (S' := { S with armed := max n 0 }) rfl rfl rfl rfl rfl
  refine op_nil (op_fldP (op_st (vs := [.int .i64 (max n 0)]) rfl rfl h.top (by show 0 + 4 + 1 ≤ 6; omega) ?_))
  have h2 : Nx _ d _ (List.set (G.set d (.var (List.set [.map (some (.new S.m)), S.pv, .int .i64 S.cap, .bool S.down, .int .i64 S.armed, .int .i64 S.keep] 4 (.int .i64 (max n 0))))) d (.var (List.set [.map (some (.new S.m)), S.pv, .int .i64 S.cap, .bool S.down, .int .i64 (max n 0), .int .i64 S.keep] 5 (.int .i64 k)))) { S with armed := max n 0, keep := k } := h1.dk.set (S' := { S with armed := max n 0, keep := k }) rfl rfl rfl rfl rfl
  refine op_nil (op_fldP (op_st (vs := [.int .i64 k]) rfl rfl h1.dk.top (by show 0 + 5 + 1 ≤ 6; omega) (tidy_none (hq _ _ (h1.trans h2) ⟨φ, m.fs, m.ps, m.cap, m.down, rfl, rfl, m.inj, m.lt, ⟨m.wf.pin, m.wf.syl, m.wf.big, m.wf.psl, m.wf.cap0, ⟨by show _ ≤ max n 0; omega, by show max n 0 ≤ _; omega⟩, hk⟩⟩))))
theorem dRead (h : Dk G d S) (m0 : Sim S A) {x : List UInt8} (hq : ∀ v L, Bs B (G ++ L) v (A.read x).1 → NotOwn d S v → Q (.tuple [v, .int .i64 (A.read x).2]) (G ++ L)) : Cl B 17 [.ptr (some (.new d, 0)), .str x] G Q := by
  obtain ⟨φ, m⟩ := m0
  have hbg := m.wf.big
  have nil : ∀ e : Int, A.read x = ([], e) → Q (.tuple [.nils, .int .i64 e]) G := fun e he => by
    rw [he] at hq
    have := hq .nils [] Bs.nil (fun k off len es cap e => by cases e)
    rwa [List.append_nil] at this
  refine f17_ok h (by omega) (fun e => nil 6 (if_pos (by rw [← m.down]; exact e))) (fun e hr => nil 1 ((if_neg (by rw [← m.down, e]; simp)).trans (if_pos hr))) (fun e hr hno => nil 5 ?_) fun e hr f hf hx v L hb hv => ?_
  · unfold AD.read
    rw [← m.down, e, if_neg (by simp), if_neg (by simp [hr]), m.find_none hno]
  · have : A.read x = (f.s, 0) := by
      unfold AD.read
      rw [← m.down, e, if_neg (by simp), if_neg (by simp [hr]), m.find_some h.nms hf hx]; rfl
    rw [this] at hq
    exact hq v L hb hv
theorem dUsed (h : Dk G d S) (m0 : Sim S A) (hq : Q (.int .i64 (totV A.fs : Int)) G) : Cl B 18 [.ptr (some (.new d, 0))] G Q := by
  obtain ⟨φ, m⟩ := m0
  have hbg := m.wf.big
  exact f18_ok h (by omega) (by rw [m.tot]; exact hq)
theorem dNew {c : Int} (hc : -9223372036854775808 ≤ c ∧ c ≤ 9223372036854775807) (hq : ∀ G' d' S', G.length ≤ d' → Dk G' d' S' → Sim S' (AD.new c) → G.length ≤ G'.length → (∀ k, k < G.length → G'[k]? = G[k]?) → (∀ k, k < G.length → ¬ Own d' S' k) → Q (.ptr (some (.new d', 0))) G') : Cl B 12 [.int .i64 c] G Q := by
  refine f12_ok fun G' d' m' h1 h2 h3 h4 h5 => ?_
  refine hq G' d' _ h1 h3 ⟨fun k => k, List.Perm.refl _, rfl, rfl, rfl, rfl, rfl, fun f g hf => (by cases hf), fun f hf => (by cases hf), ⟨fun p hp => (by cases hp), fun f hf => (by cases hf), by show (0 : Nat) ≤ _; omega, by show (0 : Nat) ≤ _; omega, by show (0 : Int) ≤ max c 0 ∧ max c 0 ≤ _; omega, by show (_ : Int) ≤ 0 ∧ (0 : Int) ≤ _; omega, by show (_ : Int) ≤ 0 ∧ (0 : Int) ≤ _; omega⟩⟩ h4 h5 fun k hk ho => ?_
  rcases ho with e | e | ⟨f, hf, _⟩ | e
  · omega
  · have : k = m' := e
    omega
  · cases hf
  · cases e
end
end Go.Am

/- The names of a disk, in order; two disks beside one another. -/
namespace Go.Am
open Go

theorem sort_perm {l r : List (List UInt8)} (h : l.Perm r) : l.mergeSort (fun x y => decide (x ≤ y)) = r.mergeSort (fun x y => decide (x ≤ y)) := by
  have tr : ∀ a b c : List UInt8, decide (a ≤ b) = true → decide (b ≤ c) = true → decide (a ≤ c) = true := fun a b c h1 h2 => decide_eq_true (List.le_trans (of_decide_eq_true h1) (of_decide_eq_true h2))
  have to : ∀ a b : List UInt8, (decide (a ≤ b) || decide (b ≤ a)) = true := fun a b => by
    rcases List.le_total a b with h | h
    · simp [h]
    · simp [h]
  have p1 := List.pairwise_mergeSort tr to l
  have p2 := List.pairwise_mergeSort tr to r
  refine List.Perm.eq_of_pairwise (le := fun a b => decide (a ≤ b) = true) ?_ p1 p2 (((List.mergeSort_perm l _).trans h).trans (List.mergeSort_perm r _).symm)
  intro a b _ _ h1 h2
  exact List.le_antisymm (of_decide_eq_true h1) (of_decide_eq_true h2)

def srows (l : List (List UInt8)) : List (List AV) := l.map fun s => [AV.str s]
section
variable {φ : Nat → Nat} {B : Base} {G G' X Y : Heap} {d e : Nat} {S S' T T' : DS} {Q : AV → Heap → Prop} {A : AD}

theorem dList (h : Dk G d S) (m0 : Sim S A) (hl : A.fs.length ≤ 1000000) (hn : ∀ v, v ∈ A.fs → v.name.length ≤ 1000000) (hq : ∀ v L, Sl B (G ++ L) 1 v (srows A.names) → NotOwn d S v → Q v (G ++ L)) : Cl B 22 [.ptr (some (.new d, 0))] G Q := by
  obtain ⟨φ, m⟩ := m0
  have hlen : S.fs.length = A.fs.length := by rw [← m.fs.length_eq, List.length_map]
  have hnm : (S.fs.map DF.name).Perm (A.fs.map FV.name) := by
    have := m.fs.map FV.name
    rw [List.map_map] at this
    exact this
  have nil : A.names = [] → Q .nils G := fun e => by
    have := hq .nils [] ⟨fun r hr => (by rw [e] at hr; cases hr), .inl ⟨rfl, by rw [e]; rfl⟩⟩ (fun k off len es cap e => by cases e)
    rwa [List.append_nil] at this
  refine f22_ok h (by omega) (fun f hf => hn _ (m.mem hf)) (fun e => nil (if_pos (by rw [← m.down]; exact e))) (fun e e0 => nil ?_) fun e e0 ss hs => ?_
  · unfold AD.names
    rw [← m.down, e, if_neg (by simp)]
    have : A.fs = [] := List.eq_nil_of_length_eq_zero (by rw [← hlen, e0]; rfl)
    rw [this, List.map_nil, List.mergeSort_nil]
  · have en : A.names = ss.mergeSort fun x y => decide (x ≤ y) := by
      unfold AD.names
      rw [← m.down, e, if_neg (by simp)]
      exact (sort_perm (hs.trans hnm)).symm
    have el : S.fs.length = (srows A.names).length := by
      rw [srows, List.length_map, en, List.length_mergeSort, hs.length_eq, List.length_map]
    have hsl : Sl B (G ++ [.arr ((ss.mergeSort fun x y => decide (x ≤ y)).map AV.str)]) 1 (.slice (.new G.length) 0 S.fs.length 1 none) (srows A.names) := by
      have hr : ∀ r, r ∈ srows A.names → r.length = 1 := fun r hr => by obtain ⟨s, _, rfl⟩ := List.mem_map.1 hr; rfl
      have hf : (srows A.names).flatten = (ss.mergeSort fun x y => decide (x ≤ y)).map AV.str := by
        rw [en]; unfold srows
        generalize (ss.mergeSort fun x y => decide (x ≤ y)) = l
        induction l with
        | nil => rfl
        | cons a r ih => simp only [List.map_cons, List.flatten_cons, ih]; rfl
      refine ⟨hr, .inr ⟨_, _, _, by rw [el], cellsAt_iff'.2 ⟨(ss.mergeSort fun x y => decide (x ≤ y)).map AV.str, by simp only [cellsOf]; rw [get_app0]; rfl, ?_, ?_⟩⟩⟩
      · rw [← hf, flatten_len hr]; omega
      · rw [← hf, List.drop_zero, ← flatten_len hr, List.take_length]
    exact hq _ _ hsl fun k off len es cap ek ho => by
      cases ek
      have := h.lt ho
      omega

/-- Two disks. -/
structure Two (G : Heap) (d : Nat) (S : DS) (e : Nat) (T : DS) : Prop where
  a : Dk G d S
  b : Dk G e T
  ap : ∀ k, Own d S k → ¬ Own e T k
theorem Two.symm (h : Two G d S e T) : Two G e T d S := ⟨h.b, h.a, fun k h1 h2 => h.ap k h2 h1⟩
theorem Two.left (h : Two G d S e T) (hx : Nx G d S G' S') : Two G' d S' e T := by
  refine ⟨hx.dk, h.b.same fun k hk => hx.fr.same k (h.b.lt hk) fun ho => h.ap k ho hk, fun k hk ho => ?_⟩
  rcases hx.fr.own k hk with h1 | h1
  · exact h.ap k h1 ho
  · have := h.b.lt ho; omega
theorem Two.right (h : Two G d S e T) (hx : Nx G e T G' T') : Two G' d S e T' := (h.symm.left hx).symm
theorem Two.app (h : Two G d S e T) (L : Heap) : Two (G ++ L) d S e T := h.left (Nx.app h.a L)
/-- What is no disk's stays. -/
theorem Two.get (_ : Two G d S e T) (hx : Nx G d S G' S') {k : Nat} {o : AObj} (hg : G[k]? = some o) (h1 : ¬ Own d S k) (_ : ¬ Own e T k) : G'[k]? = some o ∧ ¬ Own d S' k := hx.fr.get hg h1
end
end Go.Am

/- Disks that are armed and disks that are not do the same, up to the call at which they crash; how large they may be. -/
namespace Go.Am
open Go

namespace AD
def w (C : AD) (n k : Int) : AD := { C with armed := n, keep := k }
/-- What may follow, where the call comes to it. -/
structure Body (nb : AD → Int × AD) (sb : AD → FV → Int × AD) : Prop where
  nw : ∀ C n k, nb (C.w n k) = ((nb C).1, (nb C).2.w n k)
  sw : ∀ C v n k, sb (C.w n k) v = ((sb C v).1, (sb C v).2.w n k)
  nd : ∀ C, (nb C).2.down = C.down ∧ (nb C).2.armed = C.armed ∧ (nb C).1 ≠ 6
  sd : ∀ C v, (sb C v).2.down = C.down ∧ (sb C v).2.armed = C.armed ∧ (sb C v).1 ≠ 6

section
variable {C : AD} {x : List UInt8} {nb : AD → Int × AD} {sb : AD → FV → Int × AD}
theorem call_gone (h : C.down = true) : C.call x nb sb = (6, C) := by
  have e1 : C.up = false := by simp [AD.up, h]
  have e2 : C.wr = C := if_pos h
  rw [call_down e1, e2]
theorem call_idle (h : C.down = false) (h0 : C.armed = 0) : C.call x nb sb = if rightB x = false then (1, C) else match C.find x with
    | .none => nb C
    | .some v => sb C v := by
  have e1 : C.up = true := by simp [AD.up, h, h0]
  have e2 : C.wr = C := by unfold AD.wr; rw [if_neg (by simp [h]), if_neg (by omega)]
  unfold AD.call
  rw [if_neg (by simp [e1]), e2] <;> rfl
theorem call_w (hb : Body nb sb) (h : C.down = false) (h0 : C.armed = 0) {n k : Int} (hn : 1 < n) :
    (C.w n k).call x nb sb = ((C.call x nb sb).1, (C.call x nb sb).2.w (n - 1) k) ∧ (C.call x nb sb).2.down = false ∧ (C.call x nb sb).2.armed = 0 ∧ (C.call x nb sb).1 ≠ 6 := by
  have e1 : (C.w n k).up = true := by
    have : decide (n ≠ 1) = true := decide_eq_true (by omega)
    simp only [AD.up, AD.w, h, this]; rfl
  have e2 : (C.w n k).wr = C.w (n - 1) k := by
    unfold AD.wr
    rw [if_neg (by simp [AD.w, h]), if_pos (by show 0 < n; omega), if_neg (by show n ≠ 1; omega)]; rfl
  have e3 : (C.w (n - 1) k).find x = C.find x := rfl
  rw [call_idle h h0]
  unfold AD.call
  rw [if_neg (by simp [e1]), e2, e3]
  by_cases hr : rightB x = false
  · rw [if_pos hr, if_pos hr]; exact ⟨rfl, h, h0, by simp⟩
  rw [if_neg hr, if_neg hr]
  cases C.find x with
  | none =>
    obtain ⟨g1, g2, g3⟩ := hb.nd C
    exact ⟨hb.nw C _ _, g1.trans h, g2.trans h0, g3⟩
  | some v =>
    obtain ⟨g1, g2, g3⟩ := hb.sd C v
    exact ⟨hb.sw C v _ _, g1.trans h, g2.trans h0, g3⟩
end
theorem body_create {x : List UInt8} : Body (fun A => (0, { A with fs := A.fs ++ [⟨x, A.next, [], 0⟩], next := A.next + 1 })) fun A _ => (7, A) :=
  ⟨fun _ _ _ => rfl, fun _ _ _ _ => rfl, fun _ => ⟨rfl, rfl, by simp⟩, fun _ _ => ⟨rfl, rfl, by simp⟩⟩
theorem body_append {b : List UInt8} : Body (fun A => (5, A)) fun A v => if A.cap < totV A.fs + b.length then (4, A) else (0, { A with fs := A.fs.map (updV v.a ⟨v.name, v.a, v.s ++ b, v.syn⟩), ps := A.ps ++ [(v.a, b.length)] }) := by
  refine ⟨fun _ _ _ => rfl, fun C v n k => ?_, fun _ => ⟨rfl, rfl, by simp⟩, fun C v => ?_⟩
  · show (if C.cap < totV C.fs + b.length then _ else _) = _
    by_cases h : C.cap < totV C.fs + b.length
    · rw [if_pos h, if_pos h]
    · rw [if_neg h, if_neg h]; rfl
  · by_cases h : C.cap < totV C.fs + b.length
    · rw [if_pos h]; exact ⟨rfl, rfl, by simp⟩
    · rw [if_neg h]; exact ⟨rfl, rfl, by simp⟩
theorem body_sync : Body (fun A => (5, A)) fun A v => (0, { A with fs := A.fs.map (updV v.a ⟨v.name, v.a, v.s, v.s.length⟩), ps := A.ps.filter (notOf v.a) }) :=
  ⟨fun _ _ _ => rfl, fun _ _ _ _ => rfl, fun _ => ⟨rfl, rfl, by simp⟩, fun _ _ => ⟨rfl, rfl, by simp⟩⟩
theorem body_delete : Body (fun A => (5, A)) fun A v => (0, { A with fs := A.fs.filter fun g => !(g.a == v.a), ps := A.ps.filter (notOf v.a) }) :=
  ⟨fun _ _ _ => rfl, fun _ _ _ _ => rfl, fun _ => ⟨rfl, rfl, by simp⟩, fun _ _ => ⟨rfl, rfl, by simp⟩⟩
theorem body_rename {x to : List UInt8} : Body (fun A => (if rightB to = true then 5 else 1, A)) fun A v => if rightB to = false then (1, A) else if x = to then (0, A) else match A.find to with
  | .some o => (0, { A with fs := (A.fs.map (updV o.a ⟨to, v.a, v.s, v.syn⟩)).filter fun g => !(g.name == x), ps := A.ps.filter (notOf o.a) })
  | .none => (0, { A with fs := (A.fs ++ [(⟨to, v.a, v.s, v.syn⟩ : FV)]).filter fun g => !(g.name == x) }) := by
  refine ⟨fun _ _ _ => rfl, fun C v n k => ?_, fun _ => ⟨rfl, rfl, by cases rightB to <;> simp⟩, fun C v => ?_⟩
  · have e3 : (C.w n k).find to = C.find to := rfl
    rw [e3]
    by_cases h1 : rightB to = false
    · rw [if_pos h1, if_pos h1]
    rw [if_neg h1, if_neg h1]
    by_cases h2 : x = to
    · rw [if_pos h2, if_pos h2]
    rw [if_neg h2, if_neg h2]
    cases C.find to <;> rfl
  · by_cases h1 : rightB to = false
    · rw [if_pos h1]; exact ⟨rfl, rfl, by simp⟩
    rw [if_neg h1]
    by_cases h2 : x = to
    · rw [if_pos h2]; exact ⟨rfl, rfl, by simp⟩
    rw [if_neg h2]
    cases C.find to <;> exact ⟨rfl, rfl, by simp⟩

/-! ### How large it may be -/
structure Nice (j : Nat) (C : AD) : Prop where
  tt : totV C.fs ≤ 1048576 * j
  pl : C.ps.length ≤ j
  fl : C.fs.length ≤ j
  nm : ∀ v, v ∈ C.fs → rightB v.name = true
  na : (C.fs.map FV.a).Nodup
  nn : (C.fs.map FV.name).Nodup
  lt : ∀ v, v ∈ C.fs → v.a < C.next
theorem Nice.mono {i j : Nat} {C : AD} (h : Nice i C) (hij : i ≤ j) : Nice j C := ⟨by have := h.tt; omega, by have := h.pl; omega, by have := h.fl; omega, h.nm, h.na, h.nn, h.lt⟩
theorem tot_filter (p : FV → Bool) : ∀ l : List FV, totV (l.filter p) ≤ totV l
  | [] => Nat.le_refl _
  | a :: r => by
    have := tot_filter p r
    by_cases h : p a = true
    · rw [List.filter_cons_of_pos h]; simp only [totV, List.map_cons, List.sum_cons] at this ⊢; omega
    · rw [List.filter_cons_of_neg h]; simp only [totV, List.map_cons, List.sum_cons] at this ⊢; omega
theorem tot_same {f : FV → FV} {l : List FV} (h : ∀ v, v ∈ l → (f v).s.length ≤ v.s.length) : totV (l.map f) ≤ totV l := by
  induction l with
  | nil => exact Nat.le_refl _
  | cons a r ih =>
    have h1 := h a List.mem_cons_self
    have h2 := ih fun v hv => h v (List.mem_cons_of_mem _ hv)
    simp only [totV, List.map_cons, List.sum_cons] at h2 ⊢; omega
theorem tot_perm {a b : List FV} (h : a.Perm b) : totV a = totV b := (h.map _).sum_nat
theorem tot_cons (x : FV) (l : List FV) : totV (x :: l) = x.s.length + totV l := by simp [totV]
theorem tot_app1 (x : FV) (l : List FV) : totV (l ++ [x]) = totV l + x.s.length := by simp [totV]
theorem cut_mem {l : List FV} {v : FV} (h : v ∈ l) : ∃ R, l.Perm (v :: R) := by
  obtain ⟨A, C, rfl⟩ := List.append_of_mem h
  exact ⟨A ++ C, List.perm_middle⟩
theorem cut_two {l : List FV} {u o : FV} (hu : u ∈ l) (ho : o ∈ l) (hne : u ≠ o) : ∃ R, l.Perm (u :: o :: R) := by
  obtain ⟨R1, h1⟩ := cut_mem hu
  obtain ⟨R, h2⟩ := cut_mem (l := R1) (v := o) ((List.mem_cons.1 (h1.mem_iff.1 ho)).resolve_left (Ne.symm hne))
  exact ⟨R, h1.trans (h2.cons u)⟩
section
variable {C : AD} {x : List UInt8} {nb : AD → Int × AD} {sb : AD → FV → Int × AD} {j : Nat}
/-- Files that come from files. -/
theorem Nice.of (h : Nice j C) {i : Nat} (hij : j ≤ i) {fs' : List FV} {ps' : List (Nat × Nat)} {L : List FV} (hp : fs'.Perm L) (ha : (L.map FV.a).Nodup) (hn : (L.map FV.name).Nodup) (ht : totV L ≤ 1048576 * i) (hl : L.length ≤ i) (hps : ps'.length ≤ i)
    (hm : ∀ v, v ∈ L → rightB v.name = true) (hlt : ∀ v, v ∈ L → v.a < C.next) : Nice i { C with fs := fs', ps := ps' } :=
  ⟨by show totV fs' ≤ _; rw [tot_perm hp]; exact ht, hps, by show fs'.length ≤ _; rw [hp.length_eq]; exact hl, fun v hv => hm v (hp.mem_iff.1 hv), ((hp.map FV.a).nodup_iff).2 ha, ((hp.map FV.name).nodup_iff).2 hn, fun v hv => hlt v (hp.mem_iff.1 hv)⟩
theorem Nice.crash (h : Nice j C) (k : Int) : Nice j (C.crash k) := by
  unfold AD.crash
  split
  · exact h
  · refine ⟨?_, Nat.zero_le _, ?_, fun v hv => ?_, ?_, ?_, fun v hv => ?_⟩
    · refine Nat.le_trans (tot_same fun v _ => ?_) h.tt
      show (v.s.take _).length ≤ _
      rw [List.length_take]; omega
    · show (C.fs.map _).length ≤ j
      rw [List.length_map]; exact h.fl
    · obtain ⟨u, hu, rfl⟩ := List.mem_map.1 hv
      exact h.nm u hu
    · show ((C.fs.map _).map _).Nodup
      rw [List.map_map]; exact h.na
    · show ((C.fs.map _).map _).Nodup
      rw [List.map_map]; exact h.nn
    · obtain ⟨u, hu, rfl⟩ := List.mem_map.1 hv
      exact h.lt u hu
theorem Nice.wr (h : Nice j C) : Nice j C.wr := by
  unfold AD.wr
  split
  · exact h
  · split
    · split
      · exact h.crash _
      · exact ⟨h.tt, h.pl, h.fl, h.nm, h.na, h.nn, h.lt⟩
    · exact h
theorem wr_cap (C : AD) : C.wr.cap = C.cap := by
  unfold AD.wr AD.crash
  split
  · rfl
  · split
    · split
      · first | rfl | (split <;> rfl)
      · rfl
    · rfl
theorem Nice.call (h : Nice j C) (hn : ∀ C', Nice j C' → C'.cap = C.cap → rightB x = true → C'.find x = none → Nice (j + 1) (nb C').2) (hs : ∀ C' v, Nice j C' → C'.cap = C.cap → rightB x = true → v ∈ C'.fs → v.name = x → Nice (j + 1) (sb C' v).2) : Nice (j + 1) (C.call x nb sb).2 := by
  have hw := h.wr
  unfold AD.call
  split
  · exact hw.mono (by omega)
  · split
    · exact hw.mono (by omega)
    · rename_i _ hr
      have hr : rightB x = true := by simpa using hr
      split
      · rename_i hf
        exact hn _ hw (wr_cap C) hr hf
      · rename_i v hf
        exact hs _ v hw (wr_cap C) hr (List.mem_of_find?_eq_some hf) (by simpa using List.find?_some hf)
theorem Nice.create (h : Nice j C) : Nice (j + 1) (C.create x).2 := by
  refine h.call (fun C' h _ hr hf => ?_) fun C' v h _ _ _ _ => h.mono (by omega)
  have hno : ∀ v, v ∈ C'.fs → v.name ≠ x := fun v hv e => by simpa [e] using List.find?_eq_none.1 hf v hv
  refine ⟨?_, by have := h.pl; show C'.ps.length ≤ j + 1; omega, ?_, fun v hv => ?_, ?_, ?_, fun v hv => ?_⟩
  · show totV (C'.fs ++ [_]) ≤ _
    rw [tot_app1]; have := h.tt; show totV C'.fs + 0 ≤ _; omega
  · show (C'.fs ++ [_]).length ≤ _
    rw [List.length_append]; have := h.fl; show C'.fs.length + 1 ≤ _; omega
  · rcases List.mem_append.1 hv with hv | hv
    · exact h.nm v hv
    · rw [List.mem_singleton.1 hv]; exact hr
  · show ((C'.fs ++ [_]).map _).Nodup
    rw [List.map_append, List.nodup_append]
    refine ⟨h.na, by simp, fun a ha b hb => ?_⟩
    obtain ⟨v, hv, rfl⟩ := List.mem_map.1 ha
    have e : b = C'.next := by simpa using hb
    have := h.lt v hv
    omega
  · show ((C'.fs ++ [_]).map _).Nodup
    rw [List.map_append, List.nodup_append]
    refine ⟨h.nn, by simp, fun a ha b hb => ?_⟩
    obtain ⟨v, hv, rfl⟩ := List.mem_map.1 ha
    have e : b = x := by simpa using hb
    rw [e]; exact hno v hv
  · show v.a < C'.next + 1
    rcases List.mem_append.1 hv with hv | hv
    · have := h.lt v hv; omega
    · rw [List.mem_singleton.1 hv]; exact Nat.lt_succ_self _
/-- One of them is changed. -/
theorem Nice.upd (h : Nice j C) {v w : FV} (hv : v ∈ C.fs) (ha : w.a = v.a) (hn : w.name = v.name) (hl : w.s.length ≤ v.s.length + 1048576) {ps' : List (Nat × Nat)} (hp : ps'.length ≤ j + 1) : Nice (j + 1) { C with fs := C.fs.map (updV v.a w), ps := ps' } := by
  obtain ⟨R, hR⟩ := cut_mem hv
  have h1 := upd_perm (w := w) hR h.na
  have a1 := ((hR.map FV.a).nodup_iff).1 h.na
  have n1 := ((hR.map FV.name).nodup_iff).1 h.nn
  have t1 := tot_perm hR
  rw [tot_cons] at t1
  have htt := h.tt
  have hfl := h.fl
  have l1 := hR.length_eq
  refine h.of (by omega) h1 ?_ ?_ ?_ ?_ hp (fun u hu => ?_) fun u hu => ?_
  · rw [List.map_cons, ha]; exact a1
  · rw [List.map_cons, hn]; exact n1
  · rw [tot_cons]; omega
  · simp only [List.length_cons] at l1 ⊢; omega
  · rcases List.mem_cons.1 hu with rfl | hu
    · rw [hn]; exact h.nm v hv
    · exact h.nm u (hR.mem_iff.2 (List.mem_cons_of_mem _ hu))
  · rcases List.mem_cons.1 hu with rfl | hu
    · rw [ha]; exact h.lt v hv
    · exact h.lt u (hR.mem_iff.2 (List.mem_cons_of_mem _ hu))
theorem Nice.upd' (h : Nice j C) {v w : FV} (hv : v ∈ C.fs) (ha : w.a = v.a) (hn : w.name = v.name) (hl : totV C.fs + w.s.length ≤ v.s.length + 1048576 * (j + 1)) {ps' : List (Nat × Nat)} (hp : ps'.length ≤ j + 1) : Nice (j + 1) { C with fs := C.fs.map (updV v.a w), ps := ps' } := by
  obtain ⟨R, hR⟩ := cut_mem hv
  have h1 := upd_perm (w := w) hR h.na
  have a1 := ((hR.map FV.a).nodup_iff).1 h.na
  have n1 := ((hR.map FV.name).nodup_iff).1 h.nn
  have t1 := tot_perm hR
  rw [tot_cons] at t1
  have hfl := h.fl
  have l1 := hR.length_eq
  refine h.of (by omega) h1 ?_ ?_ ?_ ?_ hp (fun u hu => ?_) fun u hu => ?_
  · rw [List.map_cons, ha]; exact a1
  · rw [List.map_cons, hn]; exact n1
  · rw [tot_cons]; omega
  · simp only [List.length_cons] at l1 ⊢; omega
  · rcases List.mem_cons.1 hu with rfl | hu
    · rw [hn]; exact h.nm v hv
    · exact h.nm u (hR.mem_iff.2 (List.mem_cons_of_mem _ hu))
  · rcases List.mem_cons.1 hu with rfl | hu
    · rw [ha]; exact h.lt v hv
    · exact h.lt u (hR.mem_iff.2 (List.mem_cons_of_mem _ hu))
theorem Nice.append (h : Nice j C) {b : List UInt8} (hb : b.length ≤ 1048576 ∨ C.cap ≤ 1048576) : Nice (j + 1) (C.append x b).2 := by
  refine h.call (fun C' h _ _ _ => h.mono (by omega)) fun C' v h hcap _ hv _ => ?_
  show Nice (j + 1) (if _ then _ else _ : Int × AD).2
  split
  · exact h.mono (by omega)
  · rename_i hfit
    refine h.upd' (w := ⟨v.name, v.a, v.s ++ b, v.syn⟩) hv rfl rfl ?_ ?_
    · show totV C'.fs + (v.s ++ b).length ≤ _
      have htt := h.tt
      rw [List.length_append]
      rcases hb with hb | hb
      · omega
      · rw [hcap] at hfit; omega
    · rw [List.length_append]; have := h.pl; show C'.ps.length + 1 ≤ _; omega
theorem Nice.sync (h : Nice j C) : Nice (j + 1) (C.sync x).2 := by
  refine h.call (fun C' h _ _ _ => h.mono (by omega)) fun C' v h hcap _ hv _ => ?_
  refine h.upd (w := ⟨v.name, v.a, v.s, v.s.length⟩) hv rfl rfl (by show v.s.length ≤ _; omega) ?_
  have := List.length_filter_le (notOf v.a) C'.ps
  have := h.pl
  omega
theorem Nice.sub (h : Nice j C) (p : FV → Bool) {ps' : List (Nat × Nat)} (hp : ps'.length ≤ j + 1) : Nice (j + 1) { C with fs := C.fs.filter p, ps := ps' } := by
  have htt := h.tt
  have hfl := h.fl
  have h1 := tot_filter p C.fs
  have h2 := List.length_filter_le p C.fs
  exact ⟨by show totV (C.fs.filter p) ≤ _; omega, hp, by show (C.fs.filter p).length ≤ _; omega, fun v hv => h.nm v (List.mem_filter.1 hv).1, (List.filter_sublist.map _).nodup h.na, (List.filter_sublist.map _).nodup h.nn, fun v hv => h.lt v (List.mem_filter.1 hv).1⟩
theorem Nice.delete (h : Nice j C) : Nice (j + 1) (C.delete x).2 := by
  refine h.call (fun C' h _ _ _ => h.mono (by omega)) fun C' v h hcap _ hv _ => ?_
  have := List.length_filter_le (notOf v.a) C'.ps
  have := h.pl
  exact h.sub _ (by omega)
theorem Nice.rename (h : Nice j C) {to : List UInt8} : Nice (j + 1) (C.rename x to).2 := by
  refine h.call (fun C' h _ _ _ => h.mono (by omega)) fun C' v h hcap _ hv hx => ?_
  show Nice (j + 1) (if _ then _ else if _ then _ else _ : Int × AD).2
  split
  · exact h.mono (by omega)
  rename_i hr
  have hr : rightB to = true := by simpa using hr
  split
  · exact h.mono (by omega)
  rename_i hne
  have hne : v.name ≠ to := by rw [hx]; exact hne
  have htt := h.tt
  have hfl := h.fl
  have hpl := h.pl
  split
  · rename_i o hf
    have ho := List.mem_of_find?_eq_some hf
    have hot : o.name = to := by simpa using List.find?_some hf
    obtain ⟨R, hR⟩ := cut_two hv ho fun e => hne (by rw [e, hot])
    have h1 := old_perm (w := (⟨to, v.a, v.s, v.syn⟩ : FV)) hR h.na h.nn hot.symm
    rw [hx] at h1
    have a1 := ((hR.map FV.a).nodup_iff).1 h.na
    have n1 := ((hR.map FV.name).nodup_iff).1 h.nn
    have t1 := tot_perm hR
    rw [tot_cons, tot_cons] at t1
    have l1 := hR.length_eq
    have hlf := List.length_filter_le (notOf o.a) C'.ps
    have sb : (v :: R).Sublist (v :: o :: R) := (List.sublist_cons_self o R).cons_cons v
    have sb2 : (o :: R).Sublist (v :: o :: R) := List.sublist_cons_self v _
    refine h.of (by omega) h1 ?_ ?_ ?_ ?_ (by omega) (fun u hu => ?_) fun u hu => ?_
    · exact (sb.map FV.a).nodup a1
    · rw [List.map_cons, ← hot]; exact (sb2.map FV.name).nodup n1
    · rw [tot_cons]; show v.s.length + totV R ≤ _; omega
    · simp only [List.length_cons] at l1 ⊢; omega
    · rcases List.mem_cons.1 hu with rfl | hu
      · exact hr
      · exact h.nm u (hR.mem_iff.2 (List.mem_cons_of_mem _ (List.mem_cons_of_mem _ hu)))
    · rcases List.mem_cons.1 hu with rfl | hu
      · exact h.lt v hv
      · exact h.lt u (hR.mem_iff.2 (List.mem_cons_of_mem _ (List.mem_cons_of_mem _ hu)))
  · rename_i hf
    have hno : ∀ u, u ∈ C'.fs → u.name ≠ to := fun u hu e => by simpa [e] using List.find?_eq_none.1 hf u hu
    obtain ⟨R, hR⟩ := cut_mem hv
    have h1 := new_perm (w := (⟨to, v.a, v.s, v.syn⟩ : FV)) hR h.nn (Ne.symm hne)
    rw [hx] at h1
    have a1 := ((hR.map FV.a).nodup_iff).1 h.na
    have n1 := ((hR.map FV.name).nodup_iff).1 h.nn
    have t1 := tot_perm hR
    rw [tot_cons] at t1
    have l1 := hR.length_eq
    simp only [List.map_cons, List.nodup_cons] at n1
    refine h.of (ps' := C'.ps) (by omega) h1 a1 ?_ ?_ ?_ (by omega) (fun u hu => ?_) fun u hu => ?_
    · rw [List.map_cons, List.nodup_cons]
      refine ⟨fun hm => ?_, n1.2⟩
      obtain ⟨u, hu, e⟩ := List.mem_map.1 hm
      exact hno u (hR.mem_iff.2 (List.mem_cons_of_mem _ hu)) e
    · rw [tot_cons]; show v.s.length + totV R ≤ _; omega
    · simp only [List.length_cons] at l1 ⊢; omega
    · rcases List.mem_cons.1 hu with rfl | hu
      · exact hr
      · exact h.nm u (hR.mem_iff.2 (List.mem_cons_of_mem _ hu))
    · rcases List.mem_cons.1 hu with rfl | hu
      · exact h.lt v hv
      · exact h.lt u (hR.mem_iff.2 (List.mem_cons_of_mem _ hu))
theorem Nice.start (h : Nice j C) : Nice j C.start := ⟨h.tt, h.pl, h.fl, h.nm, h.na, h.nn, h.lt⟩
theorem Nice.arm (h : Nice j C) (n k : Int) : Nice j (C.arm n k) := ⟨h.tt, h.pl, h.fl, h.nm, h.na, h.nn, h.lt⟩
theorem Nice.new (c : Int) : Nice 0 (AD.new c) := ⟨Nat.le_refl _, Nat.le_refl _, Nat.le_refl _, fun v hv => (by cases hv), List.nodup_nil, List.nodup_nil, fun v hv => by cases hv⟩
end
end AD

section
variable {B : Base} {G : Heap} {Q : AV → Heap → Prop}
theorem srows_get {l : List (List UInt8)} {i : Nat} {s : List UInt8} (h : l[i]? = some s) : (srows l)[i]? = some [.str s] := by
  rw [srows, List.getElem?_map, h]; rfl
/-- A name of a list is read. -/
theorem op_name {v : AV} {l : List (List UInt8)} {i : Nat} {s : List UInt8} {K : List UInt8 → Prop} (hs : Sl B G 1 v (srows l)) (h : l[i]? = some s) (hK : K s) :
    aop B E0 G (fun p _ => ob (peek B G p) fun c => pStr c K) (.indexPtr 1 (.const v) (.const (.int .i64 (i : Int)))) := by
  have hl := (List.getElem?_eq_some_iff.1 (srows_get h)).1
  refine op_idx hs hl ?_
  rw [(hs.el (srows_get h)).peek0 rfl, ob_some, pStr_str]; exact hK
theorem f27_loop {n : Nat} {x0 x1 : AV} {l : List (List UInt8)} (h0 : Sl B G 1 x0 (srows l)) (h1 : Sl B G 1 x1 (srows l)) (hl : l.length ≤ 1000000) (hq : Q (.bool true) G) : ∀ (m i : Nat), i + m = l.length → L27_0 B (Cl B) n x0 x1 (i : Int) G Q := by
  intro m
  have hlen : lenOf x0 = some l.length := by have := h0.len; rwa [srows, List.length_map] at this
  induction m with
  | zero =>
    intro i hi
    refine L27_0_in (ACall.cle B table) ?_
    rw [hlen, ob_some]
    exact bs_dec (fun h => absurd h (by omega)) fun _ => J27_1_in (tidy_none hq)
  | succ m ih =>
    intro i hi
    refine L27_0_in (ACall.cle B table) ?_
    rw [hlen, ob_some]
    refine bs_dec (fun _ => ?_) fun h => absurd h (by omega)
    have hs : l[i]? = some l[i] := List.getElem?_eq_getElem (by omega)
    refine op_name h0 hs (op_name h1 hs (sb_neq ?_))
    rw [pBool_bool, if_neg (by simp), w64 (by omega), show (i : Int) + 1 = ((i + 1 : Nat) : Int) by omega]
    exact ih (i + 1) (by omega)
theorem f27_ok {x0 x1 : AV} {l : List (List UInt8)} (h0 : Sl B G 1 x0 (srows l)) (h1 : Sl B G 1 x1 (srows l)) (hl : l.length ≤ 1000000) (hq : Q (.bool true) G) : Cl B 27 [x0, x1] G Q := by
  refine f27_in fun n cl hn hcl hH hA => ?_
  subst hcl
  rw [h0.len, ob_some, h1.len, ob_some]
  exact bs_of false (by simp) (fun e => by cases e) fun _ => f27_loop h0 h1 hl hq _ 0 (Nat.zero_add _)
end
end Go.Am

/- A disk that is armed crashes at that call: the law DiskArmed; one step. -/
namespace Go.Am
open Go

/-- What a step asks for. -/
def AD.does (A : AD) (k : Nat) (w : OpR) : Int × AD := match k with
  | 1 => A.create w.nm
  | 2 => A.append w.nm w.b
  | 3 => A.sync w.nm
  | 4 => A.rename w.nm w.to
  | _ => A.delete w.nm
theorem AD.Nice.does {A : AD} {j k : Nat} {w : OpR} (h : AD.Nice j A) (hb : w.b.length ≤ 1048576) : AD.Nice (j + 1) (A.does k w).2 := by
  unfold AD.does
  split
  · exact h.create
  · exact h.append (.inl hb)
  · exact h.sync
  · exact h.rename
  · exact h.delete
theorem does_gone {C : AD} {k : Nat} {w : OpR} (h : C.down = true) : C.does k w = (6, C) := by
  unfold AD.does
  split <;> exact AD.call_gone h
theorem does_w {C : AD} {k : Nat} {w : OpR} (h : C.down = false) (h0 : C.armed = 0) {n kk : Int} (hn : 1 < n) :
    (C.w n kk).does k w = ((C.does k w).1, (C.does k w).2.w (n - 1) kk) ∧ (C.does k w).2.down = false ∧ (C.does k w).2.armed = 0 ∧ (C.does k w).1 ≠ 6 := by
  unfold AD.does
  split
  · exact AD.call_w AD.body_create h h0 hn
  · exact AD.call_w AD.body_append h h0 hn
  · exact AD.call_w AD.body_sync h h0 hn
  · exact AD.call_w AD.body_rename h h0 hn
  · exact AD.call_w AD.body_delete h h0 hn

/-- Ahead of a round: the disk that is armed, and the other one. -/
structure Lp (n0 : Nat) (keep : Int) (i : Nat) (A C : AD) : Prop where
  ar : C.armed = 0
  ci : (i < n0 ∧ C.down = false ∧ A = C.w ((n0 : Int) - (i : Int)) keep) ∨ (n0 ≤ i ∧ C.down = true ∧ A = C.w 0 keep)
/-- Ahead of its calls. -/
structure Mid (n0 : Nat) (keep : Int) (i : Nat) (w : OpR) (k : Nat) (A C : AD) : Prop where
  eq : (A.does k w).1 = (C.does k w).1
  six : (C.does k w).1 = 6 ↔ n0 ≤ i + 1
  lp : Lp n0 keep (i + 1) (A.does k w).2 (C.does k w).2
theorem Lp.early {n0 : Nat} {keep : Int} {i : Nat} {A C : AD} (h : Lp n0 keep i A C) (hi : i + 1 ≠ n0) (w : OpR) (k : Nat) : Mid n0 keep i w k A C := by
  rcases h.ci with ⟨h1, h2, rfl⟩ | ⟨h1, h2, rfl⟩
  · obtain ⟨e1, e2, e3, e4⟩ := does_w (k := k) (w := w) h2 h.ar (n := (n0 : Int) - (i : Int)) (kk := keep) (by omega)
    rw [← Prod.eta ((C.w ((n0 : Int) - (i : Int)) keep).does k w)] at e1
    obtain ⟨f1, f2⟩ := Prod.mk.injEq .. ▸ e1
    refine ⟨f1, ⟨fun e => absurd e e4, fun e => by omega⟩, e3, .inl ⟨by omega, e2, ?_⟩⟩
    rw [f2]; congr 1; omega
  · have g1 : (C.w 0 keep).does k w = (6, C.w 0 keep) := does_gone h2
    have g2 : C.does k w = (6, C) := does_gone h2
    exact ⟨by rw [g1, g2], ⟨fun _ => by omega, fun _ => by rw [g2]⟩, by rw [g1, g2]; exact ⟨h.ar, .inr ⟨by omega, h2, rfl⟩⟩⟩
theorem Lp.down {n0 : Nat} {keep : Int} {i : Nat} {A C : AD} (h : Lp n0 keep i A C) : A.down = C.down ∧ A.fs = C.fs := by
  rcases h.ci with ⟨_, _, rfl⟩ | ⟨_, _, rfl⟩ <;> exact ⟨rfl, rfl⟩

section
variable {B : Base} {G G' X Y : Heap} {d e : Nat} {S S' T T' : DS} {Q : AV → Heap → Prop} {A C : AD} {n0 : Nat} {keep : Int} {i : Nat}

def OpR.cells (k : Nat) (w : OpR) : List AV := [.int .i64 (k : Int), .int .i64 w.n, .int .i64 w.m, .str w.nm, .str w.to, w.bv]

end
end Go.Am

/- A disk is cloned: the files. -/
namespace Go.Am
open Go

section
variable {B : Base} {cl : CallK} {n : Nat} {H : Heap}
/-! ### A drawn region, step by step -/
theorem dop0 {i : Nat} {op : AOp} {r : List (AStep × List AStep)} {env : Env} {K : Env → Heap → Prop} (h : aop B env H (fun v H' => drawG B cl r (env.upd i v) H' K) op) : drawG B cl ((⟨some i, none, .op op⟩, []) :: r) env H K := h
theorem dopR {i : Nat} {op : AOp} {rs : List AStep} {r : List (AStep × List AStep)} {env : Env} {K : Env → Heap → Prop} (h : aop B env H (fun v H' => samesK B cl rs (env.upd i v) H' (drawG B cl r (env.upd i v) H' K)) op) : drawG B cl ((⟨some i, none, .op op⟩, rs) :: r) env H K := h
theorem dopN {op : AOp} {r : List (AStep × List AStep)} {env : Env} {K : Env → Heap → Prop} (h : aop B env H (fun _ H' => drawG B cl r env H' K) op) : drawG B cl ((⟨none, none, .op op⟩, []) :: r) env H K := h
theorem dcall1 {i a f : Nat} {ty : Ty} {v : AV} {rs : List AStep} {r : List (AStep × List AStep)} {env : Env} {K : Env → Heap → Prop} (ha : env.f a = some v) (h : cl f [v] H fun u H' => tyK ty u fun u => samesK B cl rs (env.upd i u) H' (drawG B cl r (env.upd i u) H' K)) :
    drawG B cl ((⟨some i, none, .call (.fn f) [.tmp a] ty⟩, rs) :: r) env H K := by
  show opsK env [.tmp a] (fun vs => cl f vs H fun v H' => tyK ty v fun v => samesK B cl rs (env.upd i v) H' (drawG B cl r (env.upd i v) H' K))
  simp only [opsK, opK, Opd.look, ha, ob_some]; exact h
theorem sameO {d : Nat} {op : AOp} {v : AV} {env : Env} (hv : env.f d = some v) (hd : Nat.blt d env.n = true) (h : aop B env H (fun u _ => u = v) op) : sameK B cl ⟨some d, none, .op op⟩ env H := by
  show aop B env H (fun v' _ => ob (env.f d) fun v => ob ((env.upd d v').f d) fun v'' => v'' = v) op
  have e : (fun (v' : AV) (_ : Heap) => ob (env.f d) fun v => ob ((env.upd d v').f d) fun v'' => v'' = v) = fun u _ => u = v := by
    funext v' _
    have e1 : (env.upd d v').f d = some v' := by
      show cond (Nat.beq d d) (cond (Nat.blt d env.n) (some v') none) (env.f d) = some v'
      rw [Nat.beq_refl, hd]; rfl
    rw [hv, ob_some, e1, ob_some]
  rw [e]; exact h
theorem tldI {t : Nat} {p : AV} {i : Int} {env : Env} {K : AV → Heap → Prop} (hv : env.f t = some p) (hp : peek B H p = some (.int .i64 i)) (h : K (.int .i64 i) H) : aop B env H K (.ld (.int .i64) (.tmp t)) := by
  simp only [aop, opK, Opd.look, hv, ob_some, hp, tyK, pInt_int]; exact h
theorem tbuild2 {a b : Nat} {z : List AV} {v w : AV} {c : List AV} {env : Env} {K : AV → Heap → Prop} (ha : env.f a = some v) (hb : env.f b = some w) (hl : layParts z [(0, 1, v), (1, 1, w)] = some c) (h : K (.agg c) H) : aop B env H K (.build z [(0, (1, (.tmp a))), (1, (1, (.tmp b)))]) := by
  simp only [aop, partsK, opK, Opd.look, ha, hb, ob_some, hl]; exact h
theorem tbox {a m : Nat} {v : AV} {c : List AV} {env : Env} {K : AV → Heap → Prop} (ha : env.f a = some v) (hc : v.cells? = some c) (hl : c.length = m) (h : K (.ptr (some (.new H.length, 0))) (H ++ [.var c])) : aop B env H K (.box m (.tmp a)) := by
  simp only [aop, opK, Opd.look, ha, ob_some, hc, hl, if_true]; exact h
theorem tsetP {a b c w : Nat} {k u : AV} {es : List (AV × AV × Nat)} {clock : Nat} {env : Env} {K : AV → Heap → Prop} (h1 : env.f a = some (.map (some (.new w)))) (h2 : env.f b = some k) (h3 : env.f c = some u) (hw : H[w]? = some (.map es clock)) (hf : findP H k es 0 = some none)
    (h : K .dead (H.set w (.map (es ++ [(k, u, clock)]) (clock + 1)))) : aop B env H K (.mapSetP (.tmp a) (.tmp b) (.tmp c)) := by
  simp only [aop, opK, Opd.look, h1, h2, h3, ob_some, hw, hf]; exact h
theorem tlookP {a b w j : Nat} {k u z : AV} {es : List (AV × AV × Nat)} {clock : Nat} {env : Env} {K : AV → Heap → Prop} (h1 : env.f a = some (.map (some (.new w)))) (h2 : env.f b = some k) (hw : H[w]? = some (.map es clock)) (hf : findP H k es 0 = some (some (j, u))) (hu : u ≠ .dead)
    (h : K u H) : aop B env H K (.lookupP .other z false (.tmp a) (.tmp b)) := by
  simp only [aop, opK, Opd.look, h1, h2, ob_some, entriesOf, hw, hf, lookVal, tyK]
  exact pLive_iff.2 ⟨hu, by simpa using h⟩
theorem op_lookP {w j : Nat} {k u z : AV} {es : List (AV × AV × Nat)} {clock : Nat} {K : AV → Heap → Prop} (hw : H[w]? = some (.map es clock)) (hf : findP H k es 0 = some (some (j, u))) (hu : u ≠ .dead) (h : K u H) : aop B E0 H K (.lookupP .other z false (.const (.map (some (.new w)))) (.const k)) := by
  simp only [aop, opK, Opd.look, ob_some, entriesOf, hw, hf, lookVal, tyK]
  exact pLive_iff.2 ⟨hu, by simpa using h⟩
end

section
variable {B : Base} {G0 G X Y : Heap} {d e m w r : Nat} {S : DS} {Q : AV → Heap → Prop}

/-- slices.Clone: bytes of their own. -/
theorem f38_file {v : AV} {s : List UInt8} (hs : Bs B G v s) (hl : s.length ≤ 140737488355328) (hq : ∀ z o L, FileAt (G ++ L) z o s → (∀ k, o = some k → G.length ≤ k) → Q (rowZ z o s.length) (G ++ L)) : Cl B 38 [v] G Q := by
  refine f38_in fun n cl hn hcl hH hA => ?_
  have hs0 := hs
  obtain ⟨h0, ⟨rfl, hr⟩ | ⟨o, off, cap, rfl, hc⟩⟩ := hs
  · refine op_isNil (b := true) rfl ?_
    rw [pBool_bool, if_pos rfl]
    have : s = [] := by simpa using hr
    subst this
    refine tidy_none ?_
    have := hq none none [] ⟨rfl, .inl rfl⟩ (fun k e => by cases e)
    rwa [List.append_nil] at this
  · refine op_isNil (b := false) rfl ?_
    rw [pBool_bool, if_neg (by simp)]
    rw [show layParts ([] : List AV) [] = some [] from rfl, ob_some]
    refine slK_in ?_
    by_cases hne : s = []
    · subst hne
      have := hq (some 0) (some G.length) [.arr []] ⟨⟨[], by rw [get_app0]; rfl⟩, .inr ⟨rfl, rfl⟩⟩ (fun k e => by cases e; exact Nat.le_refl _)
      have hu : elemsOf B (G ++ [.arr []]) (.slice o off 0 1 cap) = some [] := by
        have := (hs0.pre (L := [.arr []])).elems
        simpa using this
      simp only [aop, opK, Opd.look, ob_some, lenOf, hu, List.map_nil, List.length_nil]
      rw [if_pos trivial]
      exact tidy_none this
    · have hv : AppOk B G [.arr []] 1 (.slice (.new G.length) 0 0 1 (some 0)) [] := ⟨fun r hr => (by cases hr), .inr (.inl ⟨_, _, rfl, cellsAt_iff'.2 ⟨[], by simp only [cellsOf, get_app0]; rfl, by simp, by simp⟩⟩)⟩
      refine op_appX hv (rows2 := s.map brw) (Sl.pre hs0) (by simpa using hne) (by simp [maxBytes]; omega) fun L1 hL1 _ => tidy_none ?_
      rw [List.nil_append, List.length_map]
      refine hq none (some (G.length + [AObj.arr []].length)) (L1 ++ [.arr (s.map brw).flatten]) ⟨⟨[], ?_⟩, .inl rfl⟩ fun k e => by cases e; exact Nat.le_add_right _ _
      rw [get_app, ← hL1, get_app0]; simp

/-! ### Places as keys -/
def ownE (p : DF × DF) : AV × AV × Nat := (p.1.ptr, p.2.ptr, p.2.born)
theorem own_none {f : DF} {c : List AV} (hf : X[f.a]? = some (.var c)) : ∀ (cs : List (DF × DF)) (i : Nat), (∀ p, p ∈ cs → p.1.a ≠ f.a ∧ ∃ c, X[p.1.a]? = some (.var c)) → findP X f.ptr (cs.map ownE) i = some none
  | [], _, _ => rfl
  | p :: cs, i, h => by
    obtain ⟨h1, c', h2⟩ := h p List.mem_cons_self
    have ih := own_none hf cs (i + 1) fun q hq => h q (List.mem_cons_of_mem _ hq)
    have e : (f.a == p.1.a) = false := beq_false_of_ne (Ne.symm h1)
    simp only [List.map_cons, findP, ownE, ptrEq, DF.ptr, hf, h2, e, Bool.false_and]
    simpa only [ownE, DF.ptr] using ih
theorem own_some {a : Nat} {c : List AV} (hf : X[a]? = some (.var c)) {p : DF × DF} : ∀ (cs : List (DF × DF)) (i : Nat), (∀ p, p ∈ cs → ∃ c, X[p.1.a]? = some (.var c)) → (cs.map fun p => p.1.a).Nodup → p ∈ cs → p.1.a = a → ∃ j, findP X (.ptr (some (.new a, 0))) (cs.map ownE) i = some (some (j, p.2.ptr))
  | [], _, _, _, hp, _ => by cases hp
  | q :: cs, i, h, hn, hp, ea => by
    obtain ⟨c', h2⟩ := h q List.mem_cons_self
    simp only [List.map_cons, List.nodup_cons] at hn
    by_cases e : q.1.a = a
    · have : p = q := by
        rcases List.mem_cons.1 hp with e1 | hp
        · exact e1
        · exact absurd (List.mem_map.2 ⟨p, hp, by rw [ea, e]⟩) hn.1
      subst this
      refine ⟨i, ?_⟩
      simp only [List.map_cons, findP, ownE, ptrEq, DF.ptr, hf, h2, e, beq_self_eq_true, Bool.and_self]
    · have hp' : p ∈ cs := (List.mem_cons.1 hp).resolve_left fun e1 => e (by rw [← e1, ea])
      obtain ⟨j, ih⟩ := own_some hf cs (i + 1) (fun q hq => h q (List.mem_cons_of_mem _ hq)) hn.2 hp' ea
      refine ⟨j, ?_⟩
      have e' : (a == q.1.a) = false := beq_false_of_ne (Ne.symm e)
      simp only [List.map_cons, findP, ownE, ptrEq, DF.ptr, hf, h2, e', Bool.false_and]
      simpa only [ownE, DF.ptr] using ih

def topC (m : Nat) (S : DS) : List AV := [.map (some (.new m)), S.pv, .int .i64 S.cap, .bool S.down, .int .i64 S.armed, .int .i64 S.keep]
/-- What the clone has so far. -/
structure CL (G0 G : Heap) (S : DS) (e m w r : Nat) (seen : List Nat) (cs : List (DF × DF)) : Prop where
  len : G0.length ≤ G.length
  old : ∀ k, k < G0.length → G[k]? = G0[k]?
  top : G[e]? = some (.var (topC m S))
  mp : G[m]? = some (.map (cs.map fun p => p.2.ent) cs.length)
  ow : G[w]? = some (.map (cs.map ownE) cs.length)
  it : G[r]? = some (.iter (some (.new S.m)) S.clock seen S.clock)
  mw : m ≠ w
  ee : G0.length ≤ e
  mm : G0.length ≤ m
  ww : G0.length ≤ w
  rr : G0.length ≤ r
  pm : (cs.map Prod.fst ++ uns S.fs seen).Perm S.fs
  sm : ∀ p, p ∈ cs → p.2.name = p.1.name ∧ p.2.s = p.1.s ∧ p.2.syn = p.1.syn
  fil : ∀ p, p ∈ cs → G[p.2.a]? = some p.2.obj ∧ FileAt G p.2.z p.2.o p.2.s ∧ G0.length ≤ p.2.a ∧ p.2.a ≠ e ∧ ∀ k, p.2.o = some k → G0.length ≤ k
  ads : (cs.map fun p => p.2.a).Nodup
  bns : (cs.map fun p => p.2.born) = List.range cs.length
  arr : ∀ p q, p ∈ cs → q ∈ cs → ∀ k, p.2.o = some k → q.2.o = some k → p.2.a = q.2.a

variable {seen : List Nat} {cs : List (DF × DF)}
theorem CL.src (h : CL G0 G S e m w r seen cs) {p : DF × DF} (hp : p ∈ cs) : p.1 ∈ S.fs := h.pm.mem_iff.1 (List.mem_append_left _ (List.mem_map.2 ⟨p, hp, rfl⟩))
theorem CL.dk (h : CL G0 G S e m w r seen cs) (h0 : Dk G0 d S) : Dk G d S := h0.same fun k hk => h.old k (h0.lt hk)
theorem CL.sad (h : CL G0 G S e m w r seen cs) (h0 : Dk G0 d S) : (cs.map fun p => p.1.a).Nodup := by
  have := ((h.pm.map DF.a).nodup_iff).2 h0.ads
  rw [List.map_append, List.nodup_append] at this
  have h1 := this.1
  rwa [List.map_map] at h1
/-- What grows stays. -/
theorem CL.app (h : CL G0 G S e m w r seen cs) (L : Heap) : CL G0 (G ++ L) S e m w r seen cs :=
  ⟨by have := h.len; rw [List.length_append]; omega, fun k hk => by rw [get_low (by have := h.len; omega)]; exact h.old k hk, get_pre h.top, get_pre h.mp, get_pre h.ow, get_pre h.it, h.mw, h.ee, h.mm, h.ww, h.rr, h.pm, h.sm,
    fun p hp => by
      obtain ⟨h1, h2, h3, h4⟩ := h.fil p hp
      refine ⟨get_pre h1, h2.keep fun k e => ?_, h3, h4⟩
      have h5 := h2.1
      rw [e] at h5
      exact get_low h5.lt, h.ads, h.bns, h.arr⟩

/-- A file more. -/
def clMem (G : Heap) (S : DS) (m w r : Nat) (seen : List Nat) (cs : List (DF × DF)) (f : DF) (L : Heap) (g : DF) : Heap :=
  (((G.set r (.iter (some (.new S.m)) S.clock (seen ++ [f.born]) S.clock)) ++ L ++ [g.obj]).set w (.map ((cs ++ [(f, g)]).map ownE) (cs.length + 1))).set m (.map ((cs ++ [(f, g)]).map fun p => p.2.ent) (cs.length + 1))
theorem CL.step (h : CL G0 G S e m w r seen cs) (h0 : Dk G0 d S) {f g : DF} (hf : f ∈ S.fs) (hs : f.born ∉ seen) {L : Heap} (ha : g.a = (G ++ L).length) (hb : g.born = cs.length) (hgn : g.name = f.name ∧ g.s = f.s ∧ g.syn = f.syn) (hfile : FileAt (G ++ L) g.z g.o g.s) (ho : ∀ k, g.o = some k → G.length ≤ k) :
    CL G0 (clMem G S m w r seen cs f L g) S e m w r (seen ++ [f.born]) (cs ++ [(f, g)]) := by
  have lm := lt_of_get h.mp
  have lw := lt_of_get h.ow
  have lr := lt_of_get h.it
  have le := lt_of_get h.top
  have mr : m ≠ r := get_ne h.mp h.it (by simp)
  have wr' : w ≠ r := get_ne h.ow h.it (by simp)
  have me : m ≠ e := get_ne h.mp h.top (by simp)
  have we : w ≠ e := get_ne h.ow h.top (by simp)
  have re : r ≠ e := get_ne h.it h.top (by simp)
  have hl := h.len
  have hal : G.length ≤ g.a := by rw [ha, List.length_append]; omega
  -- any place but the three of them stays
  have key : ∀ (k : Nat) (x : AObj), (G ++ L)[k]? = some x → k ≠ m → k ≠ w → k ≠ r → (clMem G S m w r seen cs f L g)[k]? = some x := fun k x hk h1 h2 h3 => by
    unfold clMem
    rw [get_set_ne (Ne.symm h1), get_set_ne (Ne.symm h2)]
    refine get_pre ?_
    rw [show G.set r (.iter (some (.new S.m)) S.clock (seen ++ [f.born]) S.clock) ++ L = (G ++ L).set r (.iter (some (.new S.m)) S.clock (seen ++ [f.born]) S.clock) from (List.set_append_left _ _ lr).symm, get_set_ne (Ne.symm h3)]
    exact hk
  have keyG : ∀ (k : Nat) (x : AObj), G[k]? = some x → k ≠ m → k ≠ w → k ≠ r → (clMem G S m w r seen cs f L g)[k]? = some x := fun k x hk => key k x (get_pre hk)
  have fkeep : ∀ {z' o' : Option Nat} {s : List UInt8}, FileAt (G ++ L) z' o' s → FileAt (clMem G S m w r seen cs f L g) z' o' s := fun {z' o' s} hh => by
    refine hh.keep fun k e => ?_
    have h5 := hh.1
    rw [e] at h5
    obtain ⟨t, ht⟩ := h5
    rw [ht]
    exact key k _ ht (get_ne ht (get_pre h.mp) (by simp)) (get_ne ht (get_pre h.ow) (by simp)) (get_ne ht (get_pre h.it) (by simp))
  have hne : ∀ p, p ∈ cs → p.2.a ≠ g.a := fun p hp e => by
    have := lt_of_get (h.fil p hp).1
    omega
  have mem : ∀ {p : DF × DF}, p ∈ cs ++ [(f, g)] → p ∈ cs ∨ p = (f, g) := fun hp => by simpa using hp
  refine ⟨?_, fun k hk => ?_, ?_, ?_, ?_, ?_, h.mw, h.ee, h.mm, h.ww, h.rr, ?_, fun p hp => ?_, fun p hp => ?_, ?_, ?_, fun p q hp hq k e1 e2 => ?_⟩
  · unfold clMem; simp only [List.length_set, List.length_append]; omega
  · have hm := h.mm; have hw := h.ww; have hr := h.rr
    unfold clMem
    rw [get_set_ne (by omega), get_set_ne (by omega), List.append_assoc, get_low (by rw [List.length_set]; omega), get_set_ne (by omega)]
    exact h.old k hk
  · exact keyG e _ h.top (Ne.symm me) (Ne.symm we) (Ne.symm re)
  · unfold clMem
    rw [get_set (by simp only [List.length_set, List.length_append]; omega), List.length_append]; rfl
  · unfold clMem
    rw [get_set_ne h.mw, get_set (by simp only [List.length_set, List.length_append]; omega), List.length_append]; rfl
  · unfold clMem
    rw [get_set_ne mr, get_set_ne wr', List.append_assoc, get_low (by rw [List.length_set]; exact lr), get_set lr]
  · rw [List.map_append]
    have hp := uns_perm h0.bns hf hs
    refine List.Perm.trans ?_ h.pm
    show (cs.map Prod.fst ++ [f] ++ uns S.fs (seen ++ [f.born])).Perm _
    rw [List.append_assoc]
    exact hp.symm.append_left _
  · rcases mem hp with hp | rfl
    · exact h.sm p hp
    · exact hgn
  · rcases mem hp with hp | rfl
    · obtain ⟨h1, h2, h3, h4, h5⟩ := h.fil p hp
      refine ⟨keyG _ _ h1 (get_ne h1 h.mp (by simp [DF.obj])) (get_ne h1 h.ow (by simp [DF.obj])) (get_ne h1 h.it (by simp [DF.obj])), fkeep (h2.keep fun k e => ?_), h3, h4, h5⟩
      have h6 := h2.1
      rw [e] at h6
      exact get_low h6.lt
    · refine ⟨?_, fkeep hfile, by show G0.length ≤ g.a; omega, by show g.a ≠ e; omega, fun k e => by have := ho k e; omega⟩
      show (clMem G S m w r seen cs f L g)[g.a]? = some g.obj
      unfold clMem
      rw [get_set_ne (by omega), get_set_ne (by omega)]
      have ea : g.a = (G.set r (.iter (some (.new S.m)) S.clock (seen ++ [f.born]) S.clock) ++ L).length := by rw [ha]; simp only [List.length_append, List.length_set]
      rw [ea, get_app0]; rfl
  · rw [List.map_append, List.nodup_append]
    refine ⟨h.ads, by simp, fun x hx y hy => ?_⟩
    obtain ⟨p, hp, rfl⟩ := List.mem_map.1 hx
    have : y = g.a := by simpa using hy
    rw [this]; exact hne p hp
  · rw [List.map_append, h.bns, List.length_append, List.length_singleton, List.range_succ]
    show _ ++ [g.born] = _
    rw [hb]
  · have old : ∀ p, p ∈ cs → ∀ k, p.2.o = some k → k < G.length := fun p hp k e => by
      have h6 := (h.fil p hp).2.1.1
      rw [e] at h6; exact h6.lt
    rcases mem hp with hp | rfl <;> rcases mem hq with hq | rfl
    · exact h.arr p q hp hq k e1 e2
    · have := old p hp k e1; have := ho k e2; omega
    · have := old q hq k e2; have := ho k e1; omega
    · rfl
end
end Go.Am

/- A disk is cloned: the files, walked. -/
namespace Go.Am
open Go

section
variable {B : Base} {cl : CallK} {n : Nat} {H : Heap}
theorem rops1 {l : List AStep} {lp : (Env → Heap → KQ → Prop) → Env → Heap → KQ → Prop} {env : Env} {Q : KQ} (h : runG B cl l env H fun e h => Q .normal e h) : awC B cl lp (.ops l) env H Q := h
theorem rdraw {l : List (AStep × List AStep)} {c : AC} {env : Env} {Q : KQ} (h : drawG B cl l env H fun e h => awC B cl (ALoop n) c e h Q) : awC B cl (ALoop n) (.seq (.draw l) c) env H Q := h
theorem ext_str {l : List AV} {i : Nat} {s : List UInt8} {K : AV → Heap → Prop} (h : l[i]? = some (.str s)) (hk : K (.str s) H) : aop B E0 H K (.extract (some .str) i (.const (.tuple l))) := by
  simp only [aop, opK, Opd.look, ob_some, extK, h, tyK, pStr_str]; exact hk
end

section
variable {B : Base} {G0 G X Y : Heap} {d e m w r : Nat} {S : DS} {Q : AV → Heap → Prop} {seen : List Nat} {cs : List (DF × DF)}
theorem rowZ_ne (z o : Option Nat) (len : Nat) : rowZ z o len ≠ .dead := by cases o <;> simp [rowZ]

theorem f30_put {n : Nat} (h : CL G0 G S e m w r seen cs) (h0 : Dk G0 d S) {f g : DF} (hf : f ∈ S.fs) (hs : f.born ∉ seen) {L : Heap} (ha : g.a = (G ++ L).length) (hb : g.born = cs.length) (hgn : g.name = f.name ∧ g.s = f.s ∧ g.syn = f.syn) (hfile : FileAt (G ++ L) g.z g.o g.s) (ho : ∀ k, g.o = some k → G.length ≤ k)
    (next : L30_3 B (Cl B) n (.ptr (some (.new d, 0))) (.ptr (some (.new e, 0))) (.map (some (.new w))) (.ptr (some (.new r, 0))) (clMem G S m w r seen cs f L g) Q) :
    J30_0 B (Cl B) n (.ptr (some (.new d, 0))) (.ptr (some (.new e, 0))) (.map (some (.new w))) (.str f.name) f.ptr (.ptr (some (.new r, 0))) ((((G.set r (.iter (some (.new S.m)) S.clock (seen ++ [f.born]) S.clock)) ++ L ++ [g.obj])).set w (.map ((cs ++ [(f, g)]).map ownE) (cs.length + 1))) Q := by
  have hst := h.step h0 hf hs ha hb hgn hfile ho
  have mr : m ≠ r := get_ne h.mp h.it (by simp)
  have wr' : w ≠ r := get_ne h.ow h.it (by simp)
  have we : w ≠ e := get_ne h.ow h.top (by simp)
  have re : r ≠ e := get_ne h.it h.top (by simp)
  have me : m ≠ e := get_ne h.mp h.top (by simp)
  have lm := lt_of_get h.mp
  have lw := lt_of_get h.ow
  have lr := lt_of_get h.it
  have le := lt_of_get h.top
  -- what of the memory is asked
  have hZ : ∀ (k : Nat) (x : AObj), G[k]? = some x → k ≠ w → k ≠ r → ((((G.set r (.iter (some (.new S.m)) S.clock (seen ++ [f.born]) S.clock)) ++ L ++ [g.obj])).set w (.map ((cs ++ [(f, g)]).map ownE) (cs.length + 1)))[k]? = some x := fun k x hk h2 h3 => by
    rw [get_set_ne (Ne.symm h2), List.append_assoc]
    refine get_pre ?_
    rw [get_set_ne (Ne.symm h3)]; exact hk
  have htop := hZ e _ h.top (Ne.symm we) (Ne.symm re)
  have hmp := hZ m _ h.mp h.mw mr
  have how : ((((G.set r (.iter (some (.new S.m)) S.clock (seen ++ [f.born]) S.clock)) ++ L ++ [g.obj])).set w (.map ((cs ++ [(f, g)]).map ownE) (cs.length + 1)))[w]? = some (.map ((cs ++ [(f, g)]).map ownE) (cs.length + 1)) := get_set (by simp only [List.length_append, List.length_set]; omega)
  have hsrc : ∀ p, p ∈ cs ++ [(f, g)] → p.1 ∈ S.fs := fun p hp => by
    rcases List.mem_append.1 hp with hp | hp
    · exact h.src hp
    · rw [List.mem_singleton.1 hp]; exact hf
  have hvar : ∀ q, q ∈ S.fs → ((((G.set r (.iter (some (.new S.m)) S.clock (seen ++ [f.born]) S.clock)) ++ L ++ [g.obj])).set w (.map ((cs ++ [(f, g)]).map ownE) (cs.length + 1)))[q.a]? = some q.obj := fun q hq => by
    have h1 := (h.dk h0).fil q hq
    exact hZ _ _ h1 (get_ne h1 h.ow (by simp [DF.obj])) (get_ne h1 h.it (by simp [DF.obj]))
  obtain ⟨j, hj⟩ := own_some (p := (f, g)) (a := f.a) (hvar f hf) (cs ++ [(f, g)]) 0 (fun p hp => ⟨_, hvar _ (hsrc p hp)⟩) (hst.sad h0) (by simp) rfl
  have hnn : ∀ q, q ∈ cs.map Prod.snd → q.name ≠ f.name := fun q hq e' => by
    obtain ⟨p, hp, rfl⟩ := List.mem_map.1 hq
    have h1 := (h.sm p hp).1
    have h2 : p.1 = f := nms_eq h0.nms (h.src hp) hf (by rw [← h1, e'])
    have h3 := hst.sad h0
    rw [List.map_append, List.nodup_append] at h3
    exact h3.2.2 p.1.a (List.mem_map.2 ⟨p, hp, rfl⟩) f.a (by simp) (by rw [h2])
  have hfind := find_none (x := f.name) 0 hnn
  rw [List.map_map] at hfind
  refine awC_keep.2 (rops1 ?_)
  refine rop0 (tfld (o := .new e) (i := 0) rfl ?_)
  refine rop0 (tld (v := .map (some (.new m))) rfl (peekV htop rfl) (by simp) ?_)
  refine rop0 (tmov (v := .str f.name) rfl ?_)
  refine rop0 (tmov (v := .map (some (.new w))) rfl ?_)
  refine rop0 (tmov (v := f.ptr) rfl ?_)
  refine rop0 (tlookP (k := f.ptr) (u := g.ptr) rfl rfl how hj (by simp [DF.ptr]) ?_)
  refine ropN (tset (w := .map (some (.new m))) (k := .str f.name) (u := g.ptr) rfl rfl rfl ?_)
  have hent : (cs.map fun p => p.2.ent) ++ [(.str f.name, g.ptr, cs.length)] = (cs ++ [(f, g)]).map fun p => p.2.ent := by
    rw [List.map_append, ← hgn.1, ← hb]; rfl
  have hfind' : findAt .str (.str f.name) (cs.map fun p => p.2.ent) 0 = some none := hfind
  simp only [aop, opK, Opd.look, ob_some, hmp, hfind', hent]
  exact next

theorem f30_file {n : Nat} (h : CL G0 G S e m w r seen cs) (h0 : Dk G0 d S) (hb : tot S.fs ≤ 70368744177664) {f : DF} (hf : f ∈ S.fs) (hs : f.born ∉ seen)
    (next : ∀ G1 cs', CL G0 G1 S e m w r (seen ++ [f.born]) cs' → L30_3 B (Cl B) n (.ptr (some (.new d, 0))) (.ptr (some (.new e, 0))) (.map (some (.new w))) (.ptr (some (.new r, 0))) G1 Q) :
    J30_1 B (Cl B) n (.ptr (some (.new d, 0))) (.ptr (some (.new e, 0))) (.map (some (.new w))) (.str f.name) f.ptr (.ptr (some (.new r, 0))) (G.set r (.iter (some (.new S.m)) S.clock (seen ++ [f.born]) S.clock)) Q := by
  have lr := lt_of_get h.it
  have hro : ¬ Own d S r := fun ho => by have := h0.lt ho; have := h.rr; omega
  have hX := (h.dk h0).other (o := .iter (some (.new S.m)) S.clock (seen ++ [f.born]) S.clock) hro
  generalize hXe : G.set r (.iter (some (.new S.m)) S.clock (seen ++ [f.born]) S.clock) = X at hX
  have hXl : X.length = G.length := by rw [← hXe, List.length_set]
  have hfil := hX.fil f hf
  have hrow := hX.row f hf
  have wr' : w ≠ r := get_ne h.ow h.it (by simp)
  have how : X[w]? = some (.map (cs.map ownE) cs.length) := by rw [← hXe, get_set_ne (Ne.symm wr')]; exact h.ow
  have hfl := tot_le hf
  refine awC_keep.2 (rdraw ?_)
  refine dop0 (tmov (v := .map (some (.new w))) rfl ?_)
  refine dop0 (tmov (v := f.ptr) rfl ?_)
  refine dop0 (tmov (v := f.ptr) rfl ?_)
  refine dop0 (tnil (p := (.new f.a, 0)) rfl ?_)
  refine dop0 (tfld (o := .new f.a) (i := 0) rfl ?_)
  refine dop0 (tld (v := f.v) rfl (peekV hfil rfl) (rowZ_ne _ _ _) ?_)
  refine dop0 (tmov (v := f.ptr) rfl ?_)
  refine dop0 (tnil (p := (.new f.a, 0)) rfl ?_)
  refine dop0 (tfld (o := .new f.a) (i := 0) rfl ?_)
  refine dop0 (tldI (i := (f.syn : Int)) rfl (peekV hfil rfl) ?_)
  refine dcall1 (v := f.v) rfl (f38_file hrow.bs (by omega) fun z o L hfile ho => rowZ_live _ _ _ ?_)
  have hfil2 : (X ++ L)[f.a]? = some f.obj := get_pre hfil
  refine ⟨sameO (v := .int .i64 (f.syn : Int)) rfl rfl (tldI (i := (f.syn : Int)) rfl (peekV hfil2 rfl) rfl), sameO (v := .ptr (some (.new f.a, 1))) rfl rfl (tfld (o := .new f.a) (i := 0) rfl rfl), sameO (v := .ptr (some (.new f.a, 0))) rfl rfl (tnil (p := (.new f.a, 0)) rfl rfl), sameO (v := f.ptr) rfl rfl (tmov (v := f.ptr) rfl rfl),
    sameO (v := f.ptr) rfl rfl (tmov (v := f.ptr) rfl rfl), sameO (v := .map (some (.new w))) rfl rfl (tmov (v := .map (some (.new w))) rfl rfl), ?_⟩
  refine dop0 (tbuild2 (v := rowZ z o f.s.length) (w := .int .i64 (f.syn : Int)) (c := [rowZ z o f.s.length, .int .i64 (f.syn : Int)]) rfl rfl (by cases o <;> rfl) ?_)
  refine dopR (tbox (v := .agg [rowZ z o f.s.length, .int .i64 (f.syn : Int)]) (c := [rowZ z o f.s.length, .int .i64 (f.syn : Int)]) rfl rfl rfl ?_)
  refine ⟨sameO (v := f.ptr) rfl rfl (tmov (v := f.ptr) rfl rfl), sameO (v := .map (some (.new w))) rfl rfl (tmov (v := .map (some (.new w))) rfl rfl), ?_⟩
  -- the new file
  have key := f30_put (B := B) (n := n) (Q := Q) h h0 (g := ⟨f.name, (X ++ L).length, o, f.s, f.syn, cs.length, z⟩) hf hs (L := L) (by simp [hXl]) rfl ⟨rfl, rfl, rfl⟩ (hfile.keep fun k e => by
    have := ho k e
    rw [List.getElem?_append_right (by omega), List.getElem?_append_right (by omega), hXl]) (fun k e => by have := ho k e; omega) (next _ _ (h.step h0 hf hs (by simp [hXl]) rfl ⟨rfl, rfl, rfl⟩ (hfile.keep fun k e => by
    have := ho k e
    rw [List.getElem?_append_right (by omega), List.getElem?_append_right (by omega), hXl]) (fun k e => by have := ho k e; omega)))
  rw [hXe] at key
  have how2 : (X ++ L ++ [.var [rowZ z o f.s.length, .int .i64 (f.syn : Int)]])[w]? = some (.map (cs.map ownE) cs.length) := get_pre (get_pre how)
  have hnone : findP (X ++ L ++ [.var [rowZ z o f.s.length, .int .i64 (f.syn : Int)]]) f.ptr (cs.map ownE) 0 = some none := by
    refine own_none (get_pre hfil2) cs 0 fun p hp => ⟨fun e' => ?_, ⟨_, get_pre (get_pre (hX.fil _ (h.src hp)))⟩⟩
    have e2 : p.1 = f := ads_eq h0.ads (h.src hp) hf e'
    have h1 := h.pm.symm.mem_iff.1 hf
    -- f stands among those that are left, once only
    have h2 := ((h.pm.map DF.a).nodup_iff).2 h0.ads
    rw [List.map_append, List.nodup_append] at h2
    refine h2.2.2 p.1.a (List.mem_map.2 ⟨p.1, List.mem_map.2 ⟨p, hp, rfl⟩, rfl⟩) f.a (List.mem_map.2 ⟨f, List.mem_filter.2 ⟨hf, by simpa using hs⟩, rfl⟩) e'
  have hown : cs.map ownE ++ [(f.ptr, .ptr (some (.new (X ++ L).length, 0)), cs.length)] = (cs ++ [(f, (⟨f.name, (X ++ L).length, o, f.s, f.syn, cs.length, z⟩ : DF))]).map ownE := by rw [List.map_append]; rfl
  refine dopN (tsetP rfl rfl rfl how2 hnone ?_)
  rw [hown]
  exact key

theorem f30_loop1 {n : Nat} (h0 : Dk G0 d S) (hb : tot S.fs ≤ 70368744177664) (done : ∀ G seen cs, CL G0 G S e m w r seen cs → uns S.fs seen = [] → J30_9 B (Cl B) n (.ptr (some (.new d, 0))) (.ptr (some (.new e, 0))) (.map (some (.new w))) G Q) :
    ∀ (k : Nat) (seen : List Nat) (cs : List (DF × DF)) (G : Heap), (uns S.fs seen).length = k → CL G0 G S e m w r seen cs → L30_3 B (Cl B) n (.ptr (some (.new d, 0))) (.ptr (some (.new e, 0))) (.map (some (.new w))) (.ptr (some (.new r, 0))) G Q := by
  intro k
  induction k with
  | zero =>
    intro seen cs G hk h
    have hu : uns S.fs seen = [] := List.eq_nil_of_length_eq_zero hk
    have hall : ∀ f, f ∈ S.fs → f.born ∈ seen := fun f hf => by
      unfold uns at hu
      rw [List.filter_eq_nil_iff] at hu
      simpa using hu f hf
    refine L30_3_in (ACall.cle B table) (next_dk (h.dk h0) h.it (fun _ => ?_) fun f hf hs => absurd (hall f hf) hs)
    exact ext_bool rfl (J30_2_n (done G seen cs h hu))
  | succ k ih =>
    intro seen cs G hk h
    refine L30_3_in (ACall.cle B table) (next_dk (h.dk h0) h.it (fun hall => ?_) fun f hf hs => ?_)
    · rw [uns_nil hall] at hk; simp at hk
    have lr := lt_of_get h.it
    have hro : ¬ Own d S r := fun ho => by have := h0.lt ho; have := h.rr; omega
    have hX := (h.dk h0).other (o := .iter (some (.new S.m)) S.clock (seen ++ [f.born]) S.clock) hro
    refine ext_bool rfl (J30_2_y (entry_dk hX (get_set lr) hf (ext_str rfl (ext_other (v := f.ptr) rfl (by simp [DF.ptr]) ?_))))
    refine f30_file h h0 hb hf hs fun G1 cs' h' => ih _ _ _ ?_ h'
    have := (uns_perm h0.bns hf hs).length_eq
    rw [List.length_cons] at this
    omega
end
end Go.Am

/- A disk is cloned: the pieces; the clone is the same disk. -/
namespace Go.Am
open Go

theorem takeNx {α : Type} {K : List α} {i : Nat} {k : α} (h : K[i]? = some k) : K.take (i + 1) = K.take i ++ [k] := by
  rw [List.take_add_one, h]; rfl
def clo (cs : List (DF × DF)) (a : Nat) : Nat := match cs.find? fun p => p.1.a == a with
  | some p => p.2.a
  | none => 0
theorem clo_eq {p : DF × DF} : ∀ {cs : List (DF × DF)}, (cs.map fun p => p.1.a).Nodup → p ∈ cs → clo cs p.1.a = p.2.a
  | [], _, h => by cases h
  | q :: r, hn, h => by
    simp only [List.map_cons, List.nodup_cons] at hn
    unfold clo
    rw [List.find?_cons]
    by_cases e : q.1.a = p.1.a
    · have : p = q := by
        rcases List.mem_cons.1 h with e1 | h
        · exact e1
        · exact absurd (List.mem_map.2 ⟨p, h, e.symm⟩) hn.1
      subst this
      simp
    · have e' : (q.1.a == p.1.a) = false := beq_false_of_ne e
      have ih := clo_eq hn.2 ((List.mem_cons.1 h).resolve_left fun e1 => e (by rw [← e1]))
      rw [e']
      exact ih
def bak (φ : Nat → Nat) (cs : List (DF × DF)) (a : Nat) : Nat := match cs.find? fun p => p.2.a == a with
  | some p => φ p.1.a
  | none => 0
theorem bak_eq {φ : Nat → Nat} {p : DF × DF} : ∀ {cs : List (DF × DF)}, (cs.map fun p => p.2.a).Nodup → p ∈ cs → bak φ cs p.2.a = φ p.1.a
  | [], _, h => by cases h
  | q :: r, hn, h => by
    simp only [List.map_cons, List.nodup_cons] at hn
    unfold bak
    rw [List.find?_cons]
    by_cases e : q.2.a = p.2.a
    · have : p = q := by
        rcases List.mem_cons.1 h with e1 | h
        · exact e1
        · exact absurd (List.mem_map.2 ⟨p, h, e.symm⟩) hn.1
      subst this
      simp
    · have e' : (q.2.a == p.2.a) = false := beq_false_of_ne e
      have ih := bak_eq (φ := φ) hn.2 ((List.mem_cons.1 h).resolve_left fun e1 => e (by rw [← e1]))
      rw [e']
      exact ih

section
variable {B : Base} {G0 G X Y : Heap} {d e m w r : Nat} {S : DS} {Q : AV → Heap → Prop} {seen : List Nat} {cs : List (DF × DF)} {A : AD} {φ : Nat → Nat}

def cloT (m : Nat) (cs : List (DF × DF)) (S : DS) (po : Option Nat) (ps : List (Nat × Nat)) : DS := ⟨m, cs.map Prod.snd, cs.length, po, ps, S.cap, S.down, S.armed, S.keep⟩

/-- Among the pieces. -/
structure C2 (G0 G : Heap) (d : Nat) (S : DS) (e m w : Nat) (cs : List (DF × DF)) (po : Option Nat) (k : Nat) : Prop where
  len : G0.length ≤ G.length
  old : ∀ j, j < G0.length → G[j]? = G0[j]?
  two : Two G d S e (cloT m cs S po ((S.ps.take k).map (pat (clo cs))))
  ow : G[w]? = some (.map (cs.map ownE) cs.length)
  wT : ¬ Own e (cloT m cs S po ((S.ps.take k).map (pat (clo cs)))) w
  ww : G0.length ≤ w
  mine : ∀ j, Own e (cloT m cs S po ((S.ps.take k).map (pat (clo cs)))) j → G0.length ≤ j

theorem CL.two (h : CL G0 G S e m w r seen cs) (h0 : Dk G0 d S) (hall : uns S.fs seen = []) : C2 G0 (G.set e (.var [.map (some (.new m)), .nils, .int .i64 S.cap, .bool S.down, .int .i64 S.armed, .int .i64 S.keep])) d S e m w cs none 0 := by
  have le := lt_of_get h.top
  have we : w ≠ e := get_ne h.ow h.top (by simp)
  have me : m ≠ e := get_ne h.mp h.top (by simp)
  have hem := h.ee
  have own : ∀ j, Own e (cloT m cs S none []) j → G0.length ≤ j := fun j hj => by
    rcases hj with rfl | e1 | ⟨f, hf, e1⟩ | e1
    · exact h.ee
    · have : j = m := e1
      rw [this]; exact h.mm
    · obtain ⟨p, hp, rfl⟩ := List.mem_map.1 hf
      obtain ⟨_, _, h3, _, h5⟩ := h.fil p hp
      rcases e1 with rfl | e1
      · exact h3
      · exact h5 _ e1
    · cases e1
  have hk : ∀ (k : Nat) (x : AObj), G[k]? = some x → k ≠ e → (G.set e (.var [.map (some (.new m)), .nils, .int .i64 S.cap, .bool S.down, .int .i64 S.armed, .int .i64 S.keep]))[k]? = some x := fun k x hx hne => by
    rw [get_set_ne (Ne.symm hne)]; exact hx
  have fk : ∀ {z o : Option Nat} {s : List UInt8}, FileAt G z o s → FileAt (G.set e (.var [.map (some (.new m)), .nils, .int .i64 S.cap, .bool S.down, .int .i64 S.armed, .int .i64 S.keep])) z o s := fun {z o s} hh => by
    refine hh.keep fun k ek => ?_
    have h5 := hh.1
    rw [ek] at h5
    obtain ⟨t, ht⟩ := h5
    rw [ht]; exact hk k _ ht (get_ne ht h.top (by simp))
  have hT : Dk (G.set e (.var [.map (some (.new m)), .nils, .int .i64 S.cap, .bool S.down, .int .i64 S.armed, .int .i64 S.keep])) e (cloT m cs S none []) := by
    refine ⟨get_set le, ?_, fun f hf => ?_, fun f hf => ?_, rfl, ?_, ?_, ?_, fun f hf => ?_, fun f g hf hg k e1 e2 => ?_, fun f hf k e1 e2 => by cases e2⟩
    · show _ = some (AObj.map ((cs.map Prod.snd).map DF.ent) cs.length)
      rw [List.map_map]
      exact hk m _ h.mp me
    · obtain ⟨p, hp, rfl⟩ := List.mem_map.1 hf
      obtain ⟨h1, _, _, h4, _⟩ := h.fil p hp
      exact hk _ _ h1 h4
    · obtain ⟨p, hp, rfl⟩ := List.mem_map.1 hf
      exact fk (h.fil p hp).2.1
    · show ((cs.map Prod.snd).map DF.name).Nodup
      have e1 : (cs.map Prod.snd).map DF.name = (cs.map Prod.fst).map DF.name := by
        rw [List.map_map, List.map_map]
        exact List.map_congr_left fun p hp => (h.sm p hp).1
      have h2 := ((h.pm.map DF.name).nodup_iff).2 h0.nms
      rw [List.map_append, List.nodup_append] at h2
      rw [e1]; exact h2.1
    · show ((cs.map Prod.snd).map DF.a).Nodup
      rw [List.map_map]; exact h.ads
    · show ((cs.map Prod.snd).map DF.born).Nodup
      rw [List.map_map]
      have := h.bns
      show (cs.map fun p => p.2.born).Nodup
      rw [this]; exact List.nodup_range
    · obtain ⟨p, hp, rfl⟩ := List.mem_map.1 hf
      have : p.2.born ∈ cs.map fun p => p.2.born := List.mem_map.2 ⟨p, hp, rfl⟩
      rw [h.bns] at this
      exact List.mem_range.1 this
    · obtain ⟨p, hp, rfl⟩ := List.mem_map.1 hf
      obtain ⟨q, hq, rfl⟩ := List.mem_map.1 hg
      exact h.arr p q hp hq k e1 e2
  have hoe : ¬ Own d S e := fun ho => by have := h0.lt ho; omega
  refine ⟨by rw [List.length_set]; exact h.len, fun j hj => ?_, ⟨(h.dk h0).other hoe, hT, fun k hk hk2 => ?_⟩, hk w _ h.ow we, fun ho => ?_, h.ww, own⟩
  · rw [get_set_ne (by omega)]; exact h.old j hj
  · have h1 := h0.lt hk
    have h2 := own k hk2
    omega
  · rcases ho with e1 | e1 | ⟨f, hf, e1⟩ | e1
    · exact we e1
    · exact h.mw e1.symm
    · obtain ⟨p, hp, rfl⟩ := List.mem_map.1 hf
      obtain ⟨h1, h2, _⟩ := h.fil p hp
      rcases e1 with e1 | e1
      · exact get_ne h.ow h1 (by simp [DF.obj]) e1
      · have h5 := h2.1
        rw [e1] at h5
        obtain ⟨t, ht⟩ := h5
        exact get_ne h.ow ht (by simp) rfl
    · cases e1

theorem C2.app {po : Option Nat} {k : Nat} (h : C2 G0 G d S e m w cs po k) (L : Heap) : C2 G0 (G ++ L) d S e m w cs po k :=
  ⟨by have := h.len; rw [List.length_append]; omega, fun j hj => by rw [get_low (by have := h.len; omega)]; exact h.old j hj, h.two.app L, get_pre h.ow, h.wT, h.ww, h.mine⟩

theorem f30_piece {n : Nat} {po : Option Nat} {k q : Nat} {p : Nat × Nat} (h : C2 G0 G d S e m w cs po k) (hsad : (cs.map fun p => p.1.a).Nodup) (hcs : ∀ f, f ∈ S.fs → ∃ p, p ∈ cs ∧ p.1 = f) (hsrc : ∀ p, p ∈ cs → p.1 ∈ S.fs) (wf : Wf S) (hp : S.ps[k]? = some p) (hq : G[q]? = some (.var (prow p))) (hqT : q ≠ e)
    (next : ∀ G' po', C2 G0 G' d S e m w cs po' (k + 1) → J30_5 B (Cl B) n (.ptr (some (.new e, 0))) (.map (some (.new w))) S.pv (S.ps.length : Int) (k : Int) G' Q) :
    J30_4 B (Cl B) n (.ptr (some (.new e, 0))) (.map (some (.new w))) (.ptr (some (.new q, 0))) S.pv (S.ps.length : Int) (k : Int) G Q := by
  obtain ⟨f, hf, hfa⟩ := wf.pin p (List.mem_of_getElem? hp)
  obtain ⟨c, hc, rfl⟩ := hcs f hf
  have hpsl := wf.psl
  have hkl := (List.getElem?_eq_some_iff.1 hp).1
  have htk : (S.ps.take (k + 1)).map (pat (clo cs)) = (S.ps.take k).map (pat (clo cs)) ++ [(c.2.a, p.2)] := by
    rw [takeNx hp, List.map_append]
    show _ ++ [(clo cs p.1, p.2)] = _
    rw [← hfa, clo_eq hsad hc]
  have hfv : G[p.1]? = some (.var [c.1.v, .int .i64 (c.1.syn : Int)]) := by rw [← hfa]; exact h.two.a.fil _ (hsrc c hc)
  obtain ⟨j, hj⟩ := own_some (p := c) (a := p.1) (X := G) hfv cs 0 (fun p hp => ⟨_, h.two.a.fil _ (hsrc p hp)⟩) hsad hc hfa
  refine J30_4_in (op_fldP ?_)
  rw [Nat.zero_add, peekV h.two.b.top (v := rowV po ((S.ps.take k).map (pat (clo cs))).length 2) rfl, ob_some]
  refine rowV_live _ _ _ (op_fldP ?_)
  rw [Nat.zero_add, peekV hq (v := .ptr (some (.new p.1, 0))) rfl, ob_some]
  refine live_ptr (op_lookP h.ow hj (by simp [DF.ptr]) (op_fldP ?_))
  rw [Nat.zero_add, peekV hq (v := .int .i64 (p.2 : Int)) rfl, ob_some, pInt_int]
  rw [show layParts [(.ptr none), (.int .i64 0)] [(0, 1, c.2.ptr), (1, 1, (.int .i64 (p.2 : Int) : AV))] = some (prow (c.2.a, p.2)) from rfl, ob_some]
  rw [show layParts [(.ptr none), (.int .i64 0)] [(0, 2, (.agg (prow (c.2.a, p.2)) : AV))] = some (prow (c.2.a, p.2)) from rfl, ob_some]
  refine slK_in ?_
  have h2 := h.app [.arr (prow (c.2.a, p.2))]
  have happ := op_appRow (B := B) (bytes := 16) (rows2 := [prow (c.2.a, p.2)]) h2.two.b.pcs (prow_len _) (sl_row1 (es := 2) rfl) (by
    show ((List.map prow ((S.ps.take k).map (pat (clo cs)))).length + 1) * 16 ≤ _
    rw [List.length_map, List.length_map, List.length_take]; simp only [maxBytes]; omega)
    (K := fun v83 H84 => aop B E0 H84 (fun v85 _ => aop B E0 H84 (fun _ H87 => J30_5 B (Cl B) n (.ptr (some (.new e, 0))) (.map (some (.new w))) S.pv (S.ps.length : Int) (k : Int) H87 Q) (.st 1 (.const v85) (.const v83))) (.fieldPtr 1 (.const (.ptr (some (.new e, 0))))))
  have hll : (((cloT m cs S po ((S.ps.take k).map (pat (clo cs)))).ps).map prow).length = ((S.ps.take k).map (pat (clo cs))).length := List.length_map _
  rw [hll] at happ
  refine happ fun po' G4 hle4 hoth4 hrow4 ho4 => ?_
  have htop := h2.two.b.top
  have hd : G4[e]? = some (cloT m cs S po ((S.ps.take k).map (pat (clo cs)))).obj := by
    refine (hoth4 _ (lt_of_get htop) fun e1 => ?_).trans htop
    obtain ⟨c, hc⟩ := h2.two.b.pcs_get e1
    rw [htop] at hc; simp [DS.obj] at hc
  refine op_fldP (op_st (vs := [rowV po' _ 2]) (by cases po' <;> rfl) rfl hd (by show 0 + 1 + 1 ≤ 6; omega) ?_)
  have e5 : ((cloT m cs S po ((S.ps.take k).map (pat (clo cs)))).ps).map prow ++ [prow (c.2.a, p.2)] = ((S.ps.take (k + 1)).map (pat (clo cs))).map prow := by rw [htk, List.map_append]; rfl
  simp only [e5] at hrow4 ⊢
  have hl6 : (((S.ps.take (k + 1)).map (pat (clo cs))).map prow).length = ((S.ps.take (k + 1)).map (pat (clo cs))).length := List.length_map _
  rw [hl6]
  have hN : Nx (G ++ [.arr (prow (c.2.a, p.2))]) e (cloT m cs S po ((S.ps.take k).map (pat (clo cs)))) (G4.set e (cloT m cs S po' ((S.ps.take (k + 1)).map (pat (clo cs)))).obj) (cloT m cs S po' ((S.ps.take (k + 1)).map (pat (clo cs)))) := by
    refine h2.two.b.head rfl rfl rfl (by simpa using hle4) (fun q hq hne hpo => by rw [get_set_ne (Ne.symm hne)]; exact hoth4 q hq hpo) (get_set (lt_of_get hd)) (hrow4.keep fun q e1 => get_set_ne ?_) ho4
    have : ∃ c, G4[q]? = some (.arr c) := by
      have e' : po' = some q := e1
      rw [e'] at hrow4
      obtain ⟨t, ht⟩ := hrow4; exact ⟨_, ht⟩
    obtain ⟨c, hc⟩ := this
    exact get_ne hd hc (by simp [DS.obj])
  refine next _ po' ⟨Nat.le_trans h2.len hN.fr.le, fun j hj => ?_, h2.two.right hN, (hN.fr.get h2.ow h2.wT).1, (hN.fr.get h2.ow h2.wT).2, h.ww, fun j hj => ?_⟩
  · exact (hN.fr.same j (by have := h2.len; omega) fun ho => by have := h2.mine j ho; omega).trans (h2.old j hj)
  · rcases hN.fr.own j hj with h7 | h7
    · exact h2.mine j h7
    · exact Nat.le_trans h2.len h7

theorem f30_loop2 {n : Nat} (hsad : (cs.map fun p => p.1.a).Nodup) (hcs : ∀ f, f ∈ S.fs → ∃ p, p ∈ cs ∧ p.1 = f) (hsrc : ∀ p, p ∈ cs → p.1 ∈ S.fs) (wf : Wf S) (hq : ∀ G po, C2 G0 G d S e m w cs po S.ps.length → Q (.ptr (some (.new e, 0))) G) :
    ∀ (t k : Nat) (G : Heap) (po : Option Nat), k + t = S.ps.length → C2 G0 G d S e m w cs po k → L30_7 B (Cl B) n (.ptr (some (.new e, 0))) (.map (some (.new w))) S.pv (S.ps.length : Int) (k : Int) G Q := by
  have hpsl := wf.psl
  intro t
  induction t with
  | zero =>
    intro k G po hk h
    refine L30_7_in (ACall.cle B table) (ib_lt_no (by omega) (J30_6_in ?_))
    rw [pBool_bool, if_neg (by simp)]
    have : k = S.ps.length := by omega
    subst this
    exact J30_8_in (tidy_none (hq G po h))
  | succ t ih =>
    intro k G po hk h
    refine L30_7_in (ACall.cle B table) (ib_lt_yes (by omega) (J30_6_in ?_))
    rw [pBool_bool, if_pos rfl]
    have hp : S.ps[k]? = some S.ps[k] := List.getElem?_eq_getElem (by omega)
    generalize S.ps[k] = p at hp
    have hr : (S.ps.map prow)[k]? = some (prow p) := by rw [List.getElem?_map, hp]; rfl
    have hs : Sl B G 2 S.pv (S.ps.map prow) := by
      have := h.two.a.pcs.sl (B := B) (prow_len S.ps)
      rwa [List.length_map] at this
    refine op_idx hs (by rw [List.length_map]; omega) ?_
    rw [(hs.el hr).peekN (n := 2) rfl, ob_some]
    refine op_alloc (op_st_last rfl rfl ?_)
    have h2 := h.app [.var (prow p)]
    have hqe : G.length ≠ e := by have := lt_of_get h.two.b.top; omega
    refine f30_piece h2 hsad hcs hsrc wf hp get_app0 hqe fun G' po' h' => J30_5_in ?_
    rw [w64 (by omega), show (k : Int) + 1 = ((k + 1 : Nat) : Int) by omega]
    exact ih (k + 1) G' po' (by omega) h'

theorem psum_pat {φ : Nat → Nat} {As : List Nat} (hi : ∀ a b, a ∈ As → b ∈ As → φ a = φ b → a = b) {x : Nat} (hx : x ∈ As) : ∀ (ps : List (Nat × Nat)), (∀ p, p ∈ ps → p.1 ∈ As) → psum (ps.map (pat φ)) (φ x) = psum ps x
  | [], _ => rfl
  | p :: r, h => by
    have ih := psum_pat hi hx r fun q hq => h q (List.mem_cons_of_mem _ hq)
    have hp := h p List.mem_cons_self
    show (if φ p.1 = φ x then p.2 else 0) + psum (r.map (pat φ)) (φ x) = (if p.1 = x then p.2 else 0) + psum r x
    rw [ih]
    by_cases e : p.1 = x
    · rw [if_pos e, if_pos (by rw [e])]
    · rw [if_neg e, if_neg fun e' => e (hi _ _ hp hx e')]

/-- The clone is the same disk. -/
theorem clo_sim {po : Option Nat} (mS : SimF φ S A) (hpm : (cs.map Prod.fst).Perm S.fs) (hsad : (cs.map fun p => p.1.a).Nodup) (hads : (cs.map fun p => p.2.a).Nodup) (hsm : ∀ p, p ∈ cs → p.2.name = p.1.name ∧ p.2.s = p.1.s ∧ p.2.syn = p.1.syn) :
    SimF (bak φ cs) (cloT m cs S po (S.ps.map (pat (clo cs)))) A := by
  have hsrc : ∀ p, p ∈ cs → p.1 ∈ S.fs := fun p hp => hpm.mem_iff.1 (List.mem_map.2 ⟨p, hp, rfl⟩)
  have hcs : ∀ f, f ∈ S.fs → ∃ p, p ∈ cs ∧ p.1 = f := fun f hf => List.mem_map.1 (hpm.mem_iff.2 hf)
  have hci : ∀ a b, a ∈ S.fs.map DF.a → b ∈ S.fs.map DF.a → clo cs a = clo cs b → a = b := fun a b ha hb e => by
    obtain ⟨f, hf, rfl⟩ := List.mem_map.1 ha
    obtain ⟨g, hg, rfl⟩ := List.mem_map.1 hb
    obtain ⟨p, hp, rfl⟩ := hcs f hf
    obtain ⟨q, hq, rfl⟩ := hcs g hg
    rw [clo_eq hsad hp, clo_eq hsad hq] at e
    have : ∀ {l : List (DF × DF)}, (l.map fun p => p.2.a).Nodup → p ∈ l → q ∈ l → p.2.a = q.2.a → p = q := fun {l} => by
      induction l with
      | nil => intro _ h; cases h
      | cons x r ih =>
        intro hn h1 h2 e
        simp only [List.map_cons, List.nodup_cons] at hn
        rcases List.mem_cons.1 h1 with e1 | h1 <;> rcases List.mem_cons.1 h2 with e2 | h2
        · rw [e1, e2]
        · exact absurd (List.mem_map.2 ⟨q, h2, by rw [← e, e1]⟩) hn.1
        · exact absurd (List.mem_map.2 ⟨p, h1, by rw [e, e2]⟩) hn.1
        · exact ih hn.2 h1 h2 e
    rw [this hads hp hq e]
  have htot : tot (cs.map Prod.snd) = tot S.fs := by
    rw [← tot_perm hpm]
    unfold tot
    rw [List.map_map, List.map_map]
    congr 1
    exact List.map_congr_left fun p hp => by show p.2.s.length = p.1.s.length; rw [(hsm p hp).2.1]
  refine ⟨?_, ?_, mS.cap, mS.down, mS.armed, mS.keep, fun f g hf hg e => ?_, fun f hf => ?_, ⟨fun p hp => ?_, fun f hf => ?_, by show tot (cs.map Prod.snd) ≤ _; rw [htot]; exact mS.wf.big, by show (S.ps.map _).length ≤ _; rw [List.length_map]; exact mS.wf.psl, mS.wf.cap0, mS.wf.arm, mS.wf.kpr⟩⟩
  · refine List.Perm.trans ?_ ((hpm.map (DF.at φ)).trans mS.fs)
    show ((cs.map Prod.snd).map _).Perm _
    rw [List.map_map, List.map_map, List.map_congr_left fun p hp => ?_]
    obtain ⟨h1, h2, h3⟩ := hsm p hp
    show (⟨p.2.name, bak φ cs p.2.a, p.2.s, p.2.syn⟩ : FV) = ⟨p.1.name, φ p.1.a, p.1.s, p.1.syn⟩
    rw [bak_eq hads hp, h1, h2, h3]
  · show (S.ps.map _).map _ = _
    rw [← mS.ps, List.map_map]
    refine List.map_congr_left fun p hp => ?_
    obtain ⟨f, hf, e⟩ := mS.wf.pin p hp
    obtain ⟨c, hc, rfl⟩ := hcs f hf
    show (bak φ cs (clo cs p.1), p.2) = (φ p.1, p.2)
    rw [← e, clo_eq hsad hc, bak_eq hads hc]
  · obtain ⟨p, hp, rfl⟩ := List.mem_map.1 hf
    obtain ⟨q, hq, rfl⟩ := List.mem_map.1 hg
    rw [bak_eq hads hp, bak_eq hads hq] at e
    have := mS.inj _ _ (hsrc p hp) (hsrc q hq) e
    rw [← clo_eq hsad hp, ← clo_eq hsad hq, this]
  · obtain ⟨p, hp, rfl⟩ := List.mem_map.1 hf
    rw [bak_eq hads hp]; exact mS.lt _ (hsrc p hp)
  · obtain ⟨q, hq, rfl⟩ := List.mem_map.1 hp
    obtain ⟨f, hf, e⟩ := mS.wf.pin q hq
    obtain ⟨c, hc, rfl⟩ := hcs f hf
    exact ⟨c.2, List.mem_map.2 ⟨c, hc, rfl⟩, by show c.2.a = clo cs q.1; rw [← e, clo_eq hsad hc]⟩
  · obtain ⟨p, hp, rfl⟩ := List.mem_map.1 hf
    obtain ⟨h1, h2, h3⟩ := hsm p hp
    have h4 := mS.wf.syl _ (hsrc p hp)
    have h5 := psum_pat hci (List.mem_map.2 ⟨p.1, hsrc p hp, rfl⟩) S.ps mS.pin
    rw [clo_eq hsad hp] at h5
    show p.2.s.length = p.2.syn + psum (S.ps.map (pat (clo cs))) p.2.a
    rw [h5, h2, h3]; exact h4

theorem dClone (h0 : Dk G d S) (m0 : Sim S A) (hq : ∀ G' e T, Two G' d S e T → Sim T A → G.length ≤ G'.length → (∀ j, j < G.length → G'[j]? = G[j]?) → (∀ j, Own e T j → G.length ≤ j) → Q (.ptr (some (.new e, 0))) G') : Cl B 30 [.ptr (some (.new d, 0))] G Q := by
  obtain ⟨φ, mS⟩ := m0
  refine f30_in fun n cl hn hcl hH hA => J30_13_in ?_
  subst hcl
  refine op_nil ?_
  rw [peekVN (n := 6) h0.top rfl, ob_some]
  refine op_alloc (op_st_last rfl rfl (J30_12_in ?_))
  have h1 := h0.app [.var [.map (some (.new S.m)), S.pv, .int .i64 S.cap, .bool S.down, .int .i64 S.armed, .int .i64 S.keep]]
  generalize hG1 : G ++ [.var [.map (some (.new S.m)), S.pv, .int .i64 S.cap, .bool S.down, .int .i64 S.armed, .int .i64 S.keep]] = G1 at h1
  have g1 : G1[G.length]? = some (.var [.map (some (.new S.m)), S.pv, .int .i64 S.cap, .bool S.down, .int .i64 S.armed, .int .i64 S.keep]) := by rw [← hG1]; exact get_app0
  have l1 : G1.length = G.length + 1 := by rw [← hG1]; simp
  have o1 : ∀ j, j < G.length → G1[j]? = G[j]? := fun j hj => by rw [← hG1]; exact get_low hj
  refine op_makeMap ?_
  refine op_fldP (op_st (vs := [.map (some (.new G1.length))]) rfl rfl (get_pre g1) (by show 0 + 0 + 1 ≤ 6; omega) (J30_11_in (op_makeMap (J30_10_in ?_))))
  have ep : putAt [.map (some (.new S.m)), S.pv, .int .i64 S.cap, .bool S.down, .int .i64 S.armed, .int .i64 S.keep] (0 + 0) [.map (some (.new G1.length))] = topC G1.length S := rfl
  rw [ep]
  have own0 : ∀ k, Own d S k → k < G.length := fun k hk => h0.lt hk
  have h2 : Dk ((G1 ++ [AObj.map [] 0]).set G.length (AObj.var (topC G1.length S))) d S := (h1.app [AObj.map [] 0]).other fun ho => by have := own0 _ ho; omega
  generalize hG2 : (G1 ++ [AObj.map [] 0]).set G.length (AObj.var (topC G1.length S)) = G2 at h2
  have l2 : G2.length = G.length + 2 := by rw [← hG2]; simp [l1]
  have g2a : G2[G.length]? = some (AObj.var (topC G1.length S)) := by rw [← hG2]; exact get_set (by rw [List.length_append, l1]; omega)
  have g2b : G2[G1.length]? = some (.map [] 0) := by rw [← hG2, get_set_ne (by omega)]; exact get_app0
  have o2 : ∀ j, j < G.length → G2[j]? = G[j]? := fun j hj => by rw [← hG2, get_set_ne (by omega), get_low (by omega)]; exact o1 j hj
  have h3 := h2.app [AObj.map [] 0]
  refine op_nil (op_fldP ?_)
  rw [Nat.zero_add, peekV h3.top (v := .map (some (.new S.m))) rfl, ob_some]
  refine live_map (op_range h3 ?_)
  have hcl : CL G (G2 ++ [AObj.map [] 0] ++ [AObj.iter (some (.new S.m)) S.clock [] S.clock]) S G.length G1.length G2.length (G2 ++ [AObj.map [] 0]).length [] [] := by
    have hu : uns S.fs [] = S.fs := by unfold uns; exact List.filter_eq_self.2 fun f hf => rfl
    refine ⟨by simp [l2]; omega, fun k hk => ?_, get_pre (get_pre g2a), get_pre (get_pre g2b), get_pre get_app0, get_app0, by omega, Nat.le_refl _, by omega, by omega, by simp [l2]; omega, by rw [hu]; exact List.Perm.refl _, fun p hp => (by cases hp), fun p hp => (by cases hp), List.nodup_nil, rfl, fun p q hp => by cases hp⟩
    rw [List.append_assoc, get_low (by omega)]; exact o2 k hk
  refine f30_loop1 h0 mS.wf.big (fun G4 seen cs h4 hu => ?_) _ [] [] _ rfl hcl
  have hpm : (cs.map Prod.fst).Perm S.fs := by
    have := h4.pm
    rwa [hu, List.append_nil] at this
  have hsad := h4.sad h0
  have hcs : ∀ f, f ∈ S.fs → ∃ p, p ∈ cs ∧ p.1 = f := fun f hf => List.mem_map.1 (hpm.mem_iff.2 hf)
  have hc2 := h4.two h0 hu
  refine J30_9_in (op_fldP (op_st (vs := [.nils]) rfl rfl h4.top (by show 0 + 1 + 1 ≤ 6; omega) (op_nil (op_fldP ?_))))
  have ep2 : putAt (topC G1.length S) (0 + 1) [.nils] = [.map (some (.new G1.length)), .nils, .int .i64 S.cap, .bool S.down, .int .i64 S.armed, .int .i64 S.keep] := rfl
  rw [ep2, Nat.zero_add, peekV hc2.two.a.top (v := S.pv) rfl, ob_some]
  refine rowV_live _ _ _ ?_
  have hpl : lenOf (rowV S.po S.ps.length 2) = some S.ps.length := h0.plen
  rw [hpl, ob_some]
  refine f30_loop2 hsad hcs (fun p hp => h4.src hp) mS.wf (fun G5 po h5 => ?_) _ 0 _ none (Nat.zero_add _) hc2
  have ht : S.ps.take S.ps.length = S.ps := List.take_length
  have hs := clo_sim (m := G1.length) (po := po) mS hpm hsad h4.ads h4.sm
  have h5t := h5.two
  have h5m := h5.mine
  rw [ht] at h5t h5m
  exact hq G5 G.length _ h5t ⟨_, hs⟩ h5.len h5.old h5m
end
end Go.Am

/- One step on a disk, alone; a clone goes on by itself: the law DiskApart, walked. -/
namespace Go.Am
open Go

def AD.alone (A : AD) (w : OpR) : Int × AD :=
  if w.kind = 1 then A.create w.nm else if w.kind = 2 then A.append w.nm w.b else if w.kind = 3 then A.sync w.nm else if w.kind = 4 then A.rename w.nm w.to else if w.kind = 5 then A.delete w.nm
  else if w.kind = 7 then (0, A.crash w.n) else if w.kind = 8 then (0, A.start) else if w.kind = 9 then (0, A.arm w.n w.m) else (0, A)
theorem call_cap {A : AD} {x : List UInt8} {nb : AD → Int × AD} {sb : AD → FV → Int × AD} (hn : ∀ C, (nb C).2.cap = C.cap) (hs : ∀ C v, (sb C v).2.cap = C.cap) : (A.call x nb sb).2.cap = A.cap := by
  unfold AD.call
  split
  · exact AD.wr_cap A
  split
  · exact AD.wr_cap A
  split
  · rw [hn]; exact AD.wr_cap A
  · rw [hs]; exact AD.wr_cap A
theorem alone_cap (A : AD) (w : OpR) : (A.alone w).2.cap = A.cap := by
  unfold AD.alone
  split
  · exact call_cap (fun _ => rfl) fun _ _ => rfl
  split
  · exact call_cap (fun _ => rfl) fun _ _ => by show (if _ then _ else _ : Int × AD).2.cap = _; split <;> rfl
  split
  · exact call_cap (fun _ => rfl) fun _ _ => rfl
  split
  · refine call_cap (fun _ => rfl) fun _ _ => ?_
    show (if _ then _ else if _ then _ else _ : Int × AD).2.cap = _
    split
    · rfl
    split
    · rfl
    split <;> rfl
  split
  · exact call_cap (fun _ => rfl) fun _ _ => rfl
  split
  · show (A.crash w.n).cap = A.cap
    unfold AD.crash; split <;> rfl
  split
  · rfl
  split <;> rfl
theorem AD.Nice.alone {A : AD} {j : Nat} {w : OpR} (h : AD.Nice j A) (hb : w.b.length ≤ 1048576 ∨ A.cap ≤ 1048576) : AD.Nice (j + 1) (A.alone w).2 := by
  unfold AD.alone
  split
  · exact h.create
  split
  · exact h.append hb
  split
  · exact h.sync
  split
  · exact h.rename
  split
  · exact h.delete
  split
  · exact (h.crash _).mono (by omega)
  split
  · exact h.start.mono (by omega)
  split
  · exact (h.arm _ _).mono (by omega)
  · exact h.mono (by omega)

abbrev InI (k : Int) : Prop := -9223372036854775808 ≤ k ∧ k ≤ 9223372036854775807
structure InQ (B : Base) (x0 : AV) (ops : List OpR) : Prop where
  sl : Sl B [] 6 x0 (ops.map OpR.row)
  bs : ∀ o, o ∈ ops → Bs B [] o.bv o.b
  rg : ∀ o, o ∈ ops → InI o.n ∧ InI o.m

section
variable {B : Base} {G G' X Y : Heap} {d e f : Nat} {S S' T T' U U' : DS} {Q : AV → Heap → Prop} {A C : AD}

theorem dAlone (h : Dk G d S) (m0 : Sim S A) {w : OpR} (hwb : Bs B [] w.bv w.b) (hrn : InI w.n) (hrm : InI w.m) (hbig : totV A.fs + w.b.length ≤ A.cap → totV A.fs + w.b.length ≤ 70368744177664) (hps : A.ps.length < 1000000) (hq : Ans G d S (A.alone w) Q) : Cl B 35 [.ptr (some (.new d, 0)), .agg w.row] G Q := by
  refine f35_in fun n cl hn hcl hH hA => ?_
  subst hcl
  have h1 := Nx.app h [.var w.row]
  have hg : (G ++ [AObj.var w.row])[G.length]? = some (.var w.row) := get_app0
  have go : ∀ {r : Int × AD}, A.alone w = r → ∀ G' S', Nx (G ++ [.var w.row]) d S G' S' → Sim S' r.2 → tidyK n Q (.int .i64 r.1) G' := fun er G' S' hN m => by
    subst er
    exact tidy_none (hq G' S' (h1.trans hN) m)
  refine op_box rfl rfl (J35_8_in (op_fldP ?_))
  rw [Nat.zero_add, peekV hg (v := .int .i64 w.kind) rfl, ob_some, pInt_int]
  by_cases e1 : w.kind = 1
  · refine J35_6_in (ib_eq_yes e1 (J35_5_in ?_))
    rw [pBool_bool, if_pos rfl]
    refine op_fldP ?_
    rw [Nat.zero_add, peekV hg (v := .str w.nm) rfl, ob_some, pStr_str]
    refine dCreate h1.dk m0 fun G1 S1 hN m => ?_
    rw [pInt_int]
    exact go (by unfold AD.alone; rw [if_pos e1]) _ _ hN m
  refine J35_6_in (ib_eq_no e1 (J35_5_in ?_))
  rw [pBool_bool, if_neg (by simp)]
  by_cases e2 : w.kind = 2
  · refine ib_eq_yes e2 (J35_4_in ?_)
    rw [pBool_bool, if_pos rfl]
    refine op_fldP ?_
    rw [Nat.zero_add, peekV hg (v := .str w.nm) rfl, ob_some, pStr_str]
    refine op_fldP ?_
    rw [Nat.zero_add, peekV hg (v := w.bv) rfl, ob_some]
    refine hwb.live _ (dAppend h1.dk m0 (base_bs hwb) (base_not hwb) hbig hps fun G1 S1 hN m => ?_)
    rw [pInt_int]
    exact go (by unfold AD.alone; rw [if_neg e1, if_pos e2]) _ _ hN m
  refine ib_eq_no e2 (J35_4_in ?_)
  rw [pBool_bool, if_neg (by simp)]
  by_cases e3 : w.kind = 3
  · refine ib_eq_yes e3 (J35_3_in ?_)
    rw [pBool_bool, if_pos rfl]
    refine op_fldP ?_
    rw [Nat.zero_add, peekV hg (v := .str w.nm) rfl, ob_some, pStr_str]
    refine dSync h1.dk m0 fun G1 S1 hN m => ?_
    rw [pInt_int]
    exact go (by unfold AD.alone; rw [if_neg e1, if_neg e2, if_pos e3]) _ _ hN m
  refine ib_eq_no e3 (J35_3_in ?_)
  rw [pBool_bool, if_neg (by simp)]
  by_cases e4 : w.kind = 4
  · refine ib_eq_yes e4 (J35_2_in ?_)
    rw [pBool_bool, if_pos rfl]
    refine op_fldP ?_
    rw [Nat.zero_add, peekV hg (v := .str w.nm) rfl, ob_some, pStr_str]
    refine op_fldP ?_
    rw [Nat.zero_add, peekV hg (v := .str w.to) rfl, ob_some, pStr_str]
    refine dRename h1.dk m0 fun G1 S1 hN m => ?_
    rw [pInt_int]
    exact go (by unfold AD.alone; rw [if_neg e1, if_neg e2, if_neg e3, if_pos e4]) _ _ hN m
  refine ib_eq_no e4 (J35_2_in ?_)
  rw [pBool_bool, if_neg (by simp)]
  by_cases e5 : w.kind = 5
  · refine ib_eq_yes e5 (J35_1_in ?_)
    rw [pBool_bool, if_pos rfl]
    refine op_fldP ?_
    rw [Nat.zero_add, peekV hg (v := .str w.nm) rfl, ob_some, pStr_str]
    refine dDelete h1.dk m0 fun G1 S1 hN m => ?_
    rw [pInt_int]
    exact go (by unfold AD.alone; rw [if_neg e1, if_neg e2, if_neg e3, if_neg e4, if_pos e5]) _ _ hN m
  refine ib_eq_no e5 (J35_1_in ?_)
  rw [pBool_bool, if_neg (by simp)]
  have ea : A.alone w = if w.kind = 7 then (0, A.crash w.n) else if w.kind = 8 then (0, A.start) else if w.kind = 9 then (0, A.arm w.n w.m) else (0, A) := by
    unfold AD.alone; rw [if_neg e1, if_neg e2, if_neg e3, if_neg e4, if_neg e5]
  by_cases e7 : w.kind = 7
  · refine ib_eq_yes e7 (J35_0_in ?_)
    rw [pBool_bool, if_pos rfl]
    refine op_fldP ?_
    rw [Nat.zero_add, peekV hg (v := .int .i64 w.n) rfl, ob_some, pInt_int]
    refine dCrash h1.dk m0 hrn fun G1 S1 hN m => live_unit (J35_7_in ?_)
    exact go (r := (0, A.crash w.n)) (by rw [ea, if_pos e7]) _ _ hN m
  refine ib_eq_no e7 (J35_0_in ?_)
  rw [pBool_bool, if_neg (by simp)]
  by_cases e8 : w.kind = 8
  · refine bs_of true (beq_iff_eq.2 e8) (fun _ => ?_) fun e => by cases e
    refine dStart h1.dk m0 fun G1 S1 hN m => live_unit (J35_7_in ?_)
    exact go (r := (0, A.start)) (by rw [ea, if_neg e7, if_pos e8]) _ _ hN m
  refine bs_of false (beq_false_of_ne e8) (fun e => by cases e) fun _ => ?_
  by_cases e9 : w.kind = 9
  · refine bs_of true (beq_iff_eq.2 e9) (fun _ => ?_) fun e => by cases e
    refine op_fldP ?_
    rw [Nat.zero_add, peekV hg (v := .int .i64 w.n) rfl, ob_some, pInt_int]
    refine op_fldP ?_
    rw [Nat.zero_add, peekV hg (v := .int .i64 w.m) rfl, ob_some, pInt_int]
    refine dArm h1.dk m0 hrn hrm fun G1 S1 hN m => live_unit (J35_7_in ?_)
    exact go (r := (0, A.arm w.n w.m)) (by rw [ea, if_neg e7, if_neg e8, if_pos e9]) _ _ hN m
  refine bs_of false (beq_false_of_ne e9) (fun e => by cases e) fun _ => J35_7_in ?_
  exact go (r := (0, A)) (by rw [ea, if_neg e7, if_neg e8, if_neg e9]) _ _ (Nx.rfl' h1.dk) m0

/-- An operation of the arguments is read whole. -/
theorem op_whole {x0 : AV} {ops : List OpR} (hin : InQ B x0 ops) {i : Nat} {w : OpR} (hi : ops[i]? = some w) {K : List AV → Prop} (h : K w.row) :
    aop B E0 G (fun p _ => ob (peekN B G 6 p) K) (.indexPtr 6 (.const x0) (.const (.int .i64 (i : Int)))) := by
  have hs : Sl B G 6 x0 (ops.map OpR.row) := base_sl hin.sl
  have hr : (ops.map OpR.row)[i]? = some w.row := by rw [List.getElem?_map, hi]; rfl
  have hl : i < ops.length := (List.getElem?_eq_some_iff.1 hi).1
  refine op_idx hs (by rw [List.length_map]; exact hl) ?_
  rw [(hs.el hr).peekN (n := 6) rfl, ob_some]; exact h

/-- Two disks that are the same, and a third. -/
structure At10 (j : Nat) (G : Heap) (d : Nat) (S : DS) (e : Nat) (T : DS) (A : AD) : Prop where
  two : Two G d S e T
  sa : Sim S A
  sb : Sim T A
  na : AD.Nice j A
  ca : A.cap = 1000
structure At11 (j : Nat) (G : Heap) (d : Nat) (S : DS) (e : Nat) (T : DS) (f : Nat) (U : DS) (A C : AD) : Prop where
  ab : At10 j G d S e T A
  ac : Two G d S f U
  bc : Two G e T f U
  sc : Sim U C
  nc : AD.Nice j C
  cc : C.cap = 1000

theorem f10_back {n : Nat} {p : AV} {l : List (List UInt8)} (hl : l.length ≤ 1000000) (sa : Sim S A) (sb : Sim T A) (hq : ∀ G, Q (.bool true) G) : ∀ (m i : Nat) (G : Heap), i + m = l.length → Two G d S e T → Sl B G 1 p (srows l) →
    L10_15 B (Cl B) n (.bool true) (.ptr (some (.new d, 0))) (.ptr (some (.new e, 0))) p (i : Int) G Q := by
  intro m
  induction m with
  | zero =>
    intro i G hi two hs
    have hlen : lenOf p = some l.length := by have := hs.len; rwa [srows, List.length_map] at this
    refine L10_15_in (ACall.cle B table) ?_
    rw [hlen, ob_some]
    exact bs_dec (fun h => absurd h (by omega)) fun _ => J10_16_in (tidy_none (hq _))
  | succ m ih =>
    intro i G hi two hs
    have hlen : lenOf p = some l.length := by have := hs.len; rwa [srows, List.length_map] at this
    refine L10_15_in (ACall.cle B table) ?_
    rw [hlen, ob_some]
    refine bs_dec (fun _ => ?_) fun h => absurd h (by omega)
    have hx : l[i]? = some l[i] := List.getElem?_eq_getElem (by omega)
    generalize l[i] = x at hx
    refine J10_14_in (op_name hs hx ?_)
    refine dRead two.a sa fun v L hb hv => live_tuple ?_
    refine ext_other rfl (bs_ne hb) (ext_int rfl (J10_13_in (op_name hs.pre hx ?_)))
    refine dRead (two.app L).b sb fun v2 L2 hb2 hv2 => live_tuple ?_
    refine ext_other rfl (bs_ne hb2) (ext_int rfl (J10_12_in (op_toStr hb.pre (op_toStr hb2 ?_))))
    rw [pStr_str, pStr_str]
    refine bs_of false (by simp) (fun e => by cases e) fun _ => ?_
    rw [w64 (by omega), show (i : Int) + 1 = ((i + 1 : Nat) : Int) by omega]
    exact ih (i + 1) _ (by omega) ((two.app L).app L2) hs.pre.pre

theorem f10_end {n : Nat} {j : Nat} (hj : j ≤ 100) (h : At10 j G d S e T A) (hq : ∀ G, Q (.bool true) G) : J10_21 B (Cl B) n (.bool true) (.ptr (some (.new d, 0))) (.ptr (some (.new e, 0))) G Q := by
  refine J10_21_in (dStart h.two.a h.sa fun G1 S1 h1 m1 => live_unit (J10_20_in ?_))
  have t1 := h.two.left h1
  refine dStart t1.b h.sb fun G2 T2 h2 m2 => live_unit (J10_19_in ?_)
  have t2 := t1.right h2
  have hn : ∀ v, v ∈ A.start.fs → v.name.length ≤ 1000000 := fun v hv => by
    have := h.na.nm v hv
    simp only [rightB, Bool.and_eq_true, decide_eq_true_eq] at this
    omega
  have f1 := h.na.fl
  have hln : A.start.names.length ≤ 1000000 := by
    have : A.start.names = (A.fs.map FV.name).mergeSort fun x y => decide (x ≤ y) := if_neg (by show ¬ false = true; simp)
    rw [this, List.length_mergeSort, List.length_map]; omega
  refine dList t2.a m1 (by show A.fs.length ≤ _; omega) hn fun v L hs hv => hs.live _ (J10_18_in ?_)
  have t3 := t2.app L
  refine dList t3.b m2 (by show A.fs.length ≤ _; omega) hn fun v2 L2 hs2 hv2 => hs2.live _ (J10_17_in ?_)
  have t4 := t3.app L2
  refine f27_ok hs.pre hs2 hln ?_
  rw [pBool_bool, bs_true]
  refine dUsed t4.a m1 ?_
  rw [pInt_int]
  refine dUsed t4.b m2 ?_
  rw [pInt_int]
  refine ib_ne_no rfl (J10_11_in ?_)
  rw [pBool_bool, if_neg (by simp)]
  exact f10_back hln m1 m2 hq _ 0 _ (Nat.zero_add _) t4 hs.pre

theorem f10_loop2 {n : Nat} {x1 x2 : AV} {mine oth : List OpR} (h1 : InQ B x1 mine) (h2 : InQ B x2 oth) (hq : ∀ G, Q (.bool true) G) : ∀ (m i : Nat) (G : Heap) (S T U : DS) (A C : AD), i + m = 40 → At11 (40 + i) G d S e T f U A C →
    L10_10 B (Cl B) n x1 x2 (.bool true) (.ptr (some (.new d, 0))) (.ptr (some (.new e, 0))) (.ptr (some (.new f, 0))) (i : Int) G Q := by
  intro m
  induction m with
  | zero =>
    intro i G S T U A C hi h
    exact L10_10_in (ACall.cle B table) (bs_dec (fun h => absurd h (by omega)) fun _ => f10_end (by omega) h.ab hq)
  | succ m ih =>
    intro i G S T U A C hi h
    refine L10_10_in (ACall.cle B table) (bs_dec (fun _ => J10_9_in ?_) fun h => absurd h (by omega))
    have l1 : lenOf x1 = some mine.length := by have := h1.sl.len; rwa [List.length_map] at this
    have l2 : lenOf x2 = some oth.length := by have := h2.sl.len; rwa [List.length_map] at this
    -- mine, on the first two
    have second : ∀ {G : Heap} {U : DS} {C : AD}, At10 (40 + i) G d S e T A → Two G d S f U → Two G e T f U → Sim U C → AD.Nice (40 + (i + 1)) C → C.cap = 1000 → J10_7 B (Cl B) n x1 x2 (.bool true) (.ptr (some (.new d, 0))) (.ptr (some (.new e, 0))) (.ptr (some (.new f, 0))) (i : Int) G Q := fun {G U C} hab hac hbc sc nc cc => by
      refine J10_7_in ?_
      rw [l1, ob_some]
      by_cases hm : (i : Int) < (mine.length : Int)
      · refine ib_lt_yes hm (J10_6_in ?_)
        rw [pBool_bool, if_pos rfl]
        have hw : mine[i]? = some mine[i] := List.getElem?_eq_getElem (by omega)
        generalize mine[i] = w at hw
        have hwb := h1.bs w (List.mem_of_getElem? hw)
        obtain ⟨hrn, hrm⟩ := h1.rg w (List.mem_of_getElem? hw)
        have tt := hab.na.tt
        have pl := hab.na.pl
        have ca := hab.ca
        refine op_whole h1 hw (dAlone hab.two.a hab.sa hwb hrn hrm (by omega) (by omega) fun G1 S1 hN1 m1 => ?_)
        rw [pInt_int]
        refine J10_5_in (op_whole h1 hw (dAlone (hab.two.left hN1).b hab.sb hwb hrn hrm (by omega) (by omega) fun G2 T1 hN2 m2 => ?_))
        rw [pInt_int]
        refine J10_4_in (bs_of false (by simp) (fun e => by cases e) fun _ => J10_8_in ?_)
        rw [w64 (by omega), show (i : Int) + 1 = ((i + 1 : Nat) : Int) by omega]
        have tb : Two G1 e T f U := ⟨(hab.two.left hN1).b, (hac.left hN1).b, hbc.ap⟩
        refine ih (i + 1) G2 S1 T1 U _ _ (by omega) ⟨⟨(hab.two.left hN1).right hN2, m1, m2, hab.na.alone (.inr (by omega)), by rw [alone_cap, ca]⟩, ⟨((hab.two.left hN1).right hN2).a, (tb.left hN2).b, (hac.left hN1).ap⟩, tb.left hN2, sc, nc, cc⟩
      · refine ib_lt_no hm (J10_6_in ?_)
        rw [pBool_bool, if_neg (by simp)]
        refine J10_8_in ?_
        rw [w64 (by omega), show (i : Int) + 1 = ((i + 1 : Nat) : Int) by omega]
        exact ih (i + 1) G S T U _ _ (by omega) ⟨⟨hab.two, hab.sa, hab.sb, hab.na.mono (by omega), hab.ca⟩, hac, hbc, sc, nc, cc⟩
    rw [l2, ob_some]
    refine bs_dec (fun ho => ?_) fun _ => second h.ab h.ac h.bc h.sc (h.nc.mono (by omega)) h.cc
    have hw : oth[i]? = some oth[i] := List.getElem?_eq_getElem (by omega)
    generalize oth[i] = w at hw
    have hwb := h2.bs w (List.mem_of_getElem? hw)
    obtain ⟨hrn, hrm⟩ := h2.rg w (List.mem_of_getElem? hw)
    have tt := h.nc.tt
    have pl := h.nc.pl
    have cc := h.cc
    refine op_whole h2 hw (dAlone h.ac.b h.sc hwb hrn hrm (by omega) (by omega) fun G1 U1 hN1 m1 => ?_)
    rw [pInt_int]
    have hac := h.ac.right hN1
    have hbc := h.bc.right hN1
    exact second ⟨⟨hac.a, hbc.a, h.ab.two.ap⟩, h.ab.sa, h.ab.sb, h.ab.na, h.ab.ca⟩ hac hbc m1 (h.nc.alone (.inr (by omega))) (by rw [alone_cap, cc])

theorem f10_mid {n : Nat} {x1 x2 : AV} {mine oth : List OpR} (h1 : InQ B x1 mine) (h2 : InQ B x2 oth) (hq : ∀ G, Q (.bool true) G) (h : At10 40 G d S e T A) : J10_24 B (Cl B) n x1 x2 (.bool true) (.ptr (some (.new d, 0))) (.ptr (some (.new e, 0))) G Q := by
  refine J10_24_in (dClone h.two.a h.sa fun G1 f U hab hU hle hold hnew => live_ptr (J10_23_in ?_))
  refine op_isNil (b := false) rfl ?_
  rw [pBool_bool, if_neg (by simp)]
  refine J10_22_in ?_
  have hb : Dk G1 e T := h.two.b.same fun k hk => hold k (h.two.b.lt hk)
  refine f10_loop2 h1 h2 hq 40 0 G1 S T U A A (by omega) ⟨⟨⟨hab.a, hb, h.two.ap⟩, h.sa, h.sb, h.na, h.ca⟩, hab, ⟨hb, hab.b, fun k hk ho => ?_⟩, hU, h.na, h.ca⟩
  have := h.two.b.lt hk
  have := hnew k ho
  omega

theorem f10_loop1 {n : Nat} {x0 x1 x2 : AV} {ops mine oth : List OpR} (h0 : InQ B x0 ops) (h1 : InQ B x1 mine) (h2 : InQ B x2 oth) (hq : ∀ G, Q (.bool true) G) : ∀ (m i : Nat) (G : Heap) (S T : DS) (A : AD), i + m = 41 → i ≤ 40 → At10 i G d S e T A →
    L10_3 B (Cl B) n x0 x1 x2 (.bool true) (.ptr (some (.new d, 0))) (.ptr (some (.new e, 0))) (i : Int) G Q := by
  intro m
  induction m with
  | zero => intro i G S T A hi; omega
  | succ m ih =>
    intro i G S T A hi hi40 h
    have l0 : lenOf x0 = some ops.length := by have := h0.sl.len; rwa [List.length_map] at this
    have mid : J10_24 B (Cl B) n x1 x2 (.bool true) (.ptr (some (.new d, 0))) (.ptr (some (.new e, 0))) G Q := f10_mid h1 h2 hq ⟨h.two, h.sa, h.sb, h.na.mono (by omega), h.ca⟩
    refine L10_3_in (ACall.cle B table) ?_
    rw [l0, ob_some]
    refine bs_dec (fun ho => bs_dec (fun hi' => ?_) fun _ => mid) fun _ => mid
    have hw : ops[i]? = some ops[i] := List.getElem?_eq_getElem (by omega)
    generalize ops[i] = w at hw
    have hwb := h0.bs w (List.mem_of_getElem? hw)
    obtain ⟨hrn, hrm⟩ := h0.rg w (List.mem_of_getElem? hw)
    have tt := h.na.tt
    have pl := h.na.pl
    have ca := h.ca
    refine J10_2_in (op_whole h0 hw (dAlone h.two.a h.sa hwb hrn hrm (by omega) (by omega) fun G1 S1 hN1 m1 => ?_))
    rw [pInt_int]
    refine J10_1_in (op_whole h0 hw (dAlone (h.two.left hN1).b h.sb hwb hrn hrm (by omega) (by omega) fun G2 T1 hN2 m2 => ?_))
    rw [pInt_int]
    refine J10_0_in (bs_of false (by simp) (fun e => by cases e) fun _ => ?_)
    rw [w64 (by omega), show (i : Int) + 1 = ((i + 1 : Nat) : Int) by omega]
    exact ih (i + 1) G2 S1 T1 _ (by omega) (by omega) ⟨(h.two.left hN1).right hN2, m1, m2, h.na.alone (.inr (by omega)), by rw [alone_cap, ca]⟩

theorem f10_ok {x0 x1 x2 : AV} {ops mine oth : List OpR} (h0 : InQ B x0 ops) (h1 : InQ B x1 mine) (h2 : InQ B x2 oth) (hq : ∀ G, Q (.bool true) G) : Cl B 10 [x0, x1, x2] G Q := by
  refine f10_in fun n cl hn hcl hH hA => J10_29_in ?_
  subst hcl
  refine shown_ok (tyK_bool (J10_28_in ?_))
  refine dNew (by omega) fun G0 d S0 hd d0 i0 hle0 hs0 ho0 => live_ptr (J10_27_in ?_)
  refine dNew (by omega) fun G1 e T1 he e1 j1 hle1 hs1 ho1 => live_ptr (J10_26_in ?_)
  have two : Two G1 d S0 e T1 := by
    refine ⟨d0.same fun k hk => hs1 k (d0.lt hk), e1, fun k hk ho => ?_⟩
    exact ho1 k (d0.lt hk) ho
  refine op_isNil (b := false) rfl ?_
  rw [pGuard_bool, bs_false]
  refine op_isNil (b := false) rfl ?_
  rw [pBool_bool, if_neg (by simp)]
  refine J10_25_in ?_
  exact f10_loop1 h0 h1 h2 hq 41 0 G1 S0 T1 _ (by omega) (by omega) ⟨two, i0, j1, AD.Nice.new 1000, rfl⟩
end
end Go.Am
