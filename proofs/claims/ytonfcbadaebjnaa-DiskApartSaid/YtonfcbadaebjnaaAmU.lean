/- More laws of the abstract machine, for those who walk: slices that are appended to, bytes, texts. -/
import Derived.Test.YtonfcbadaebjnaaAmT
import Derived.KernelRfl
namespace Go.Am
open Go

/-! ### Append, wherever the slice is -/
def AppOk (B : Base) (H L : Heap) (es : Nat) (v : AV) (rows : List (List AV)) : Prop :=
  (∀ r, r ∈ rows → r.length = es) ∧ ((v = .nils ∧ rows = []) ∨ (∃ o off, v = .slice o off rows.length es (some rows.length) ∧ cellsAt B (H ++ L) o off (rows.length * es) = some rows.flatten) ∨
    (∃ j, rows ≠ [] ∧ v = .slice (.new (H.length + j)) 0 rows.length es none ∧ L[j]? = some (.arr rows.flatten)))
theorem AppOk.sl {B : Base} {H L : Heap} {es : Nat} {v : AV} {rows : List (List AV)} (h : AppOk B H L es v rows) : Sl B (H ++ L) es v rows := by
  obtain ⟨h0, h | ⟨o, off, rfl, hc⟩ | ⟨j, hne, rfl, hg⟩⟩ := h
  · exact ⟨h0, .inl h⟩
  · exact ⟨h0, .inr ⟨_, _, _, rfl, hc⟩⟩
  · refine ⟨h0, .inr ⟨_, _, _, rfl, cellsAt_iff'.2 ⟨rows.flatten, ?_, ?_, ?_⟩⟩⟩
    · simp only [cellsOf, get_app, hg]
    · rw [flatten_len h0]; omega
    · rw [List.drop_zero, ← flatten_len h0, List.take_length]
theorem app_to {B : Base} {H L : Heap} {es bytes : Nat} {v : AV} {rows1 rows2 : List (List AV)} {K : AV → Heap → Prop} (hv : AppOk B H L es v rows1) (hne : rows2 ≠ []) (hb : (rows1.length + rows2.length) * bytes ≤ maxBytes)
    (hk : ∀ L1 : List AObj, L1.length = L.length → (∀ i, (∀ r, v ≠ .slice (.new (H.length + i)) 0 r es none) → L1[i]? = L[i]?) → K (.slice (.new (H.length + L.length)) 0 (rows1 ++ rows2).length es none) (H ++ (L1 ++ [.arr (rows1 ++ rows2).flatten]))) :
    ob (appendTo B (H ++ L) es bytes v rows2.length rows2.flatten) fun r => K r.1 r.2 := by
  obtain ⟨h0, ⟨rfl, rfl⟩ | ⟨o, off, rfl, hc⟩ | ⟨j, hne1, rfl, hg⟩⟩ := hv
  · have hl : rows2.length ≠ 0 := fun e => hne (List.length_eq_zero_iff.1 e)
    rw [appendTo_nil hl (by simpa using hb), ob_some]
    have := hk L rfl fun _ _ => rfl
    simpa using this
  · have hl : rows2.length ≠ 0 := fun e => hne (List.length_eq_zero_iff.1 e)
    have : appendTo B (H ++ L) es bytes (.slice o off rows1.length es (some rows1.length)) rows2.length rows2.flatten = some (.slice (.new (H ++ L).length) 0 (rows1.length + rows2.length) es none, (H ++ L) ++ [.arr (rows1.flatten ++ rows2.flatten)]) := by
      show (if rows2.length = 0 then _ else (if es = es then (if rows1.length + rows2.length ≤ rows1.length then _ else (if (rows1.length + rows2.length) * bytes ≤ maxBytes then (cellsAt B (H ++ L) o off (rows1.length * es)).map _ else none)) else none)) = _
      rw [if_neg hl, if_pos rfl, if_neg (by omega), if_pos hb, hc]; rfl
    rw [this, ob_some]
    have := hk L rfl fun _ _ => rfl
    simpa using this
  · have hl : rows2.length ≠ 0 := fun e => hne (List.length_eq_zero_iff.1 e)
    have hc : cellsAt B (H ++ L) (.new (H.length + j)) 0 (rows1.length * es) = some rows1.flatten :=
      cellsAt_iff'.2 ⟨rows1.flatten, by simp only [cellsOf, get_app, hg], by rw [flatten_len h0]; omega, by rw [List.drop_zero, ← flatten_len h0, List.take_length]⟩
    rw [appendTo_own hl hb hc, ob_some, set_app]
    have hjl : j < L.length := lt_of_get hg
    have := hk (L.set j .gone) List.length_set fun i hi => by
      rw [List.getElem?_set]
      split
      · rename_i e; subst e; exact absurd rfl (hi _)
      · rfl
    simpa using this
theorem op_appX {B : Base} {H L : Heap} {es bytes : Nat} {v u : AV} {rows1 rows2 : List (List AV)} {K : AV → Heap → Prop} (hv : AppOk B H L es v rows1) (hu : Sl B (H ++ L) es u rows2) (hne : rows2 ≠ []) (hb : (rows1.length + rows2.length) * bytes ≤ maxBytes)
    (hk : ∀ L1 : List AObj, L1.length = L.length → (∀ i, (∀ r, v ≠ .slice (.new (H.length + i)) 0 r es none) → L1[i]? = L[i]?) → K (.slice (.new (H.length + L.length)) 0 (rows1 ++ rows2).length es none) (H ++ (L1 ++ [.arr (rows1 ++ rows2).flatten]))) :
    aop B E0 (H ++ L) K (.append es bytes (.const v) (.const u)) := by
  simp only [aop, opK, Opd.look, ob_some, hu.len, hu.elems]
  rw [if_pos (flatten_len hu.1)]
  exact app_to hv hne hb hk

/-! ### Bytes -/
def brw (c : UInt8) : List AV := [.int .u8 (c.toNat : Int)]
theorem brws_len (s : List UInt8) : ∀ r, r ∈ s.map brw → r.length = 1 := fun r hr => by
  obtain ⟨i, _, rfl⟩ := List.mem_map.1 hr; rfl
theorem brws_cells (s : List UInt8) : (s.map brw).flatten = cellsOfBytes s := by
  induction s with
  | nil => rfl
  | cons c r ih => simp only [List.map_cons, List.flatten_cons, ih]; rfl
theorem cells_bytes (s : List UInt8) : bytesOfCells (cellsOfBytes s) = some s := by
  induction s with
  | nil => rfl
  | cons c r ih =>
    show (bytesOfCells (cellsOfBytes r)).map (UInt8.ofNat (c.toNat : Int).toNat :: ·) = _
    rw [ih]; simp
/-- A slice of bytes. -/
def Bs (B : Base) (G : Heap) (v : AV) (s : List UInt8) : Prop := Sl B G 1 v (s.map brw)
theorem Bs.pre {B : Base} {G L : Heap} {v : AV} {s : List UInt8} (h : Bs B G v s) : Bs B (G ++ L) v s := Sl.pre h
theorem Bs.len {B : Base} {G : Heap} {v : AV} {s : List UInt8} (h : Bs B G v s) : lenOf v = some s.length := by
  have := Sl.len h
  rwa [List.length_map] at this
theorem Bs.nil {B : Base} {G : Heap} : Bs B G .nils [] := ⟨fun r hr => by simp at hr, .inl ⟨rfl, rfl⟩⟩
theorem op_toStr {B : Base} {G : Heap} {v : AV} {s : List UInt8} {K : AV → Heap → Prop} (h : Bs B G v s) (hk : K (.str s) G) : aop B E0 G K (.toStr (.const v)) := by
  have e := Sl.elems h
  rw [brws_cells] at e
  simp only [aop, opK, Opd.look, ob_some, e, cells_bytes, h.len]
  rw [if_pos (by simp [cellsOfBytes])]
  exact hk
theorem op_nil {B : Base} {G : Heap} {p : Id × Nat} {K : AV → Heap → Prop} (hk : K (.ptr (some p)) G) : aop B E0 G K (.nilCheck (.const (.ptr (some p)))) := hk
theorem op_fldP {B : Base} {G : Heap} {o : Id} {i off : Nat} {K : AV → Heap → Prop} (hk : K (.ptr (some (o, i + off))) G) : aop B E0 G K (.fieldPtr off (.const (.ptr (some (o, i))))) := hk
theorem peekV {B : Base} {G : Heap} {k i : Nat} {c : List AV} {v : AV} (hg : G[k]? = some (.var c)) (hv : c[i]? = some v) : peek B G (.ptr (some (.new k, i))) = some v := by
  simp only [peek, cellsOf, hg, Option.bind_some]; exact hv
theorem peekVN {B : Base} {G : Heap} {k n : Nat} {c : List AV} (hg : G[k]? = some (.var c)) (hn : c.length = n) : peekN B G n (.ptr (some (.new k, 0))) = some c := by
  subst hn
  exact (El.new hg).peekN rfl
theorem get_set {H : Heap} {k : Nat} {o : AObj} (h : k < H.length) : (H.set k o)[k]? = some o := by
  rw [List.getElem?_set]; simp [h]
theorem get_set_ne {H : Heap} {k j : Nat} {o : AObj} (h : k ≠ j) : (H.set k o)[j]? = H[j]? := by
  rw [List.getElem?_set]; simp [h]
theorem live_unit {K : AV → Prop} (h : K (.tuple [])) : pLive (.tuple []) K := h
theorem Sl.live {B : Base} {H : Heap} {es : Nat} {v : AV} {rows : List (List AV)} (h : Sl B H es v rows) (K : AV → Prop) (hk : K v) : pLive v K := by
  obtain ⟨_, ⟨rfl, _⟩ | ⟨o, off, cap, rfl, _⟩⟩ := h
  · exact hk
  · exact hk

end Go.Am
