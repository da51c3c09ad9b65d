/- What the translated operations do in the model, continued: comparisons with nil, conversions, places in rows, parts of values. -/
import Derived.Test.YtonfcbadaebjnaaAm5
import Derived.Lib.ConvBytes
import Derived.Laws.BytesString
import Derived.Laws.BytesArg
namespace Go.Am
open Go Go.RowKit

section
variable {P : Program} {B : Base} {W0 : Bw} {m : Plcs} {H : Heap} {w : World} {K : AV → Heap → Prop} {env : Env} {a : Act}

theorem ok_neg (E : EnvR H.length m env a) (R : Rel W0 m H w) {k : IntKind} {x : Operand} {x' : Opd} (hx : opd x = some x')
    (h : opK env x' fun v => pInt k v fun a => K (.int k (k.wrap (0 - a))) H) : VOk P W0 m H w K (Op.unary .neg (a.eval x)) := by
  obtain ⟨v, ha, hv⟩ := opd_ok E hx h
  obtain ⟨i, rfl, hb⟩ := pInt_iff.1 ha
  simp only [VR] at hv; rw [hv]
  exact VOk.int R hb (by simp [Op.unary, Op.intArith])

theorem ok_compl (E : EnvR H.length m env a) (R : Rel W0 m H w) {k : IntKind} {x : Operand} {x' : Opd} (hx : opd x = some x')
    (h : opK env x' fun v => pInt k v fun a => K (.int k (bitsOp .xor k (if k.signed then -1 else k.max) a)) H) : VOk P W0 m H w K (Op.unary .xor (a.eval x)) := by
  obtain ⟨v, ha, hv⟩ := opd_ok E hx h
  obtain ⟨i, rfl, hb⟩ := pInt_iff.1 ha
  simp only [VR] at hv; rw [hv]
  exact VOk.int R hb (by simp [Op.unary, Op.intBits, bitsOp])

theorem ok_not (E : EnvR H.length m env a) (R : Rel W0 m H w) {x : Operand} {x' : Opd} (hx : opd x = some x')
    (h : opK env x' fun v => pBool v fun a => bs a (K (.bool false) H) (K (.bool true) H)) : VOk P W0 m H w K (Op.unary .not (a.eval x)) := by
  obtain ⟨v, ha, hv⟩ := opd_ok E hx h
  obtain ⟨i, rfl, hb⟩ := pBool_iff.1 ha
  simp only [VR] at hv; rw [hv]
  have hb' : K (.bool (!i)) H := by cases i <;> exact hb
  exact VOk.bool R hb' (by simp [Op.unary])

/-! ### Conversions -/
theorem ok_convI (E : EnvR H.length m env a) (R : Rel W0 m H w) {s t : TypeId} {k k2 : IntKind} {x : Operand} {x' : Opd} (hs : P.underlying s = some (.int k)) (ht : P.underlying t = some (.int k2)) (hx : opd x = some x')
    (h : opK env x' fun v => pInt k v fun a => K (.int k2 (k2.wrap a)) H) : VOk P W0 m H w K (convert s t (a.eval x)) := by
  obtain ⟨v, ha, hv⟩ := opd_ok E hx h
  obtain ⟨i, rfl, hb⟩ := pInt_iff.1 ha
  simp only [VR] at hv; rw [hv]
  exact VOk.int R hb (by simp [convert, run_underlying hs, run_underlying ht, Conv.intToInt])

theorem ok_convS (E : EnvR H.length m env a) (R : Rel W0 m H w) {s t : TypeId} {x : Operand} {x' : Opd} (hs : P.underlying s = some .string) (ht : P.underlying t = some .string) (hx : opd x = some x')
    (h : opK env x' fun v => pStr v fun a => K (.str a) H) : VOk P W0 m H w K (convert s t (a.eval x)) := by
  obtain ⟨v, ha, hv⟩ := opd_ok E hx h
  obtain ⟨i, rfl, hb⟩ := pStr_iff.1 ha
  simp only [VR] at hv; rw [hv]
  exact VOk.str R hb (by simp [convert, run_underlying hs, run_underlying ht])

theorem VRL_bytes {n : Nat} : ∀ (s : List UInt8), VRL n m (cellsOfBytes s) (s.map fun b : UInt8 => Value.int .u8 b.toNat)
  | [] => by simp [cellsOfBytes, VRL]
  | b :: s => by
    have := VRL_bytes (n := n) s
    unfold cellsOfBytes at this ⊢
    simp only [List.map_cons, VRL]
    exact ⟨_, _, rfl, by simp [VR], this⟩

theorem Ones_bytes (s : List UInt8) : Ones (cellsOfBytes s) := by
  intro v hv
  simp only [cellsOfBytes, List.mem_map] at hv
  obtain ⟨b, _, rfl⟩ := hv
  rfl

theorem World.freeze_heap (w : World) (b k n : Nat) (h : k ≠ b) : (w.freeze ⟨b, n, none⟩ 1).heap[k]? = w.heap[k]? := by
  simp only [World.freeze]
  rw [if_neg (by omega)]
  simp only [Array.getElem?_modify]
  rw [if_neg (by omega)]

theorem ok_toBytes (E : EnvR H.length m env a) (R : Rel W0 m H w) {s t e : TypeId} {x : Operand} {x' : Opd} (hs : P.underlying s = some .string) (ht : P.underlying t = some (.slice e)) (he : P.underlying e = some (.int .u8)) (hx : opd x = some x')
    (h : opK env x' fun v => pStr v fun a => K (.slice (.new H.length) 0 a.length 1 none) (H ++ [.arr (cellsOfBytes a)])) : VOk P W0 m H w K (convert s t (a.eval x)) := by
  obtain ⟨v, ha, hv⟩ := opd_ok E hx h
  obtain ⟨i, rfl, hb⟩ := pStr_iff.1 ha
  simp only [VR] at hv; rw [hv]
  clear ha h
  have hcap : i.length ≤ grownCap w i.length 0 e := grownCap_ge _ _ _ _
  obtain ⟨cap, hcapdef⟩ : ∃ cap, cap = grownCap w i.length 0 e := ⟨_, rfl⟩
  obtain ⟨W1, hW1⟩ : ∃ W1, W1 = Lib.bytesWorld w e ⟨i.toArray⟩ := ⟨_, rfl⟩
  obtain ⟨cells, hcdef⟩ : ∃ c, c = Lib.bytesCells w e ⟨i.toArray⟩ := ⟨_, rfl⟩
  have hrun : (convert s t (.string ⟨i.toArray⟩)).run P w = .ok (.slice (some ⟨w.heap.size, 0, none⟩) i.length cap) W1 := by
    rw [hW1, hcapdef]; exact Lib.run_convert_string_bytes w s t e _ hs ht he
  have hsz : cells.size = cap := by
    rw [hcdef, hcapdef]
    unfold Lib.bytesCells
    simp only [Array.size_append, Array.size_map, Array.size_replicate, List.size_toArray, mk_size]
    omega
  rw [← hcapdef] at hcap
  have hnew : W1.heap[w.heap.size]? = some (.cells cells e (cells.size, cells.size + 1)) := by rw [hW1, hcdef]; exact Lib.bytesWorld_at_new w e _
  have hold : ∀ k, k < w.heap.size → W1.heap[k]? = w.heap[k]? := fun k hk => by rw [hW1]; exact Lib.bytesWorld_at_old w e _ k hk
  have hsize : W1.heap.size = w.heap.size + 1 := by rw [hW1]; exact Lib.bytesWorld_size w e _
  have hos : W1.os = w.os ∧ W1.tape = w.tape ∧ W1.output = w.output := by
    rw [hW1]; unfold Lib.bytesWorld World.freeze; rw [if_neg (by omega)]; exact ⟨rfl, rfl, rfl⟩
  have hE := Ext.upd m H ⟨w.heap.size, 0, cap⟩ (.arr (cellsOfBytes i))
  have hcells : ∀ j u, (cellsOfBytes i)[j]? = some u → ∃ x, cells[j]? = some x ∧ VR (H.length + 1) (Am.upd m H.length ⟨w.heap.size, 0, cap⟩) u x := fun j u hu => by
    obtain ⟨x, hx, hr⟩ := VRL_get (VRL_bytes (n := H.length + 1) (m := Am.upd m H.length ⟨w.heap.size, 0, cap⟩) i) hu
    refine ⟨x, ?_, hr⟩
    have hj : j < i.length := by
      rcases Nat.lt_or_ge j i.length with h' | h'
      · exact h'
      · rw [List.getElem?_eq_none (by simpa using h')] at hx; cases hx
    rw [hcdef]
    unfold Lib.bytesCells
    rw [Array.getElem?_append_left (by simpa using hj)]
    simpa using hx
  have hlive : ∀ {k : Nat} {o : AObj}, H[k]? = some o → o.live = true → (m k).blk < w.heap.size := fun hk ho => (R.objs _ _ hk).lt ho
  have R' : Rel W0 (Am.upd m H.length ⟨w.heap.size, 0, cap⟩) (H ++ [.arr (cellsOfBytes i)]) W1 := by
    refine ⟨?_, fun k o hk => ?_, fun k l o o' hk hl ho ho' hne => ?_⟩
    · refine R.below.trans hos.1 hos.2.1 hos.2.2 (by omega) fun k hk => hold k ?_
      have := R.below.lt hk; omega
    · simp only [List.length_append, List.length_singleton]
      rw [List.getElem?_append] at hk
      split at hk
      · rename_i hlt
        refine ObjR_mono (Nat.le_succ _) hlt hE.same (fun hl => ?_) (R.objs k o hk)
        exact hold _ (hlive hk hl)
      · rename_i hge
        have hk0 : k = H.length := by
          rcases Nat.eq_zero_or_pos (k - H.length) with h | h
          · omega
          · rw [List.getElem?_eq_none (by simp; omega)] at hk; cases hk
        subst hk0
        simp at hk; subst hk
        show CellsR _ _ _ _ _ _ _
        rw [CellsR, upd_same]
        refine ⟨R.below.fresh, cells, e, _, hnew, .inr ⟨rfl, rfl⟩, ?_, by simp only [hsz]; exact Nat.le_refl _, Ones_bytes i, fun j u hu => ?_⟩
        · simp only [Nat.zero_add, cellsOfBytes, List.length_map]; exact hcap
        · simpa using hcells j u hu
    · have one : ∀ {q : Nat} {z : AObj}, ¬ q < H.length → ([AObj.arr (cellsOfBytes i)] : List AObj)[q - H.length]? = some z → q = H.length := fun hn hz => by
        rcases Nat.eq_zero_or_pos (_ - H.length) with h | h
        · exact Nat.le_antisymm (Nat.le_of_sub_eq_zero h) (Nat.le_of_not_lt hn)
        · rw [List.getElem?_eq_none (by simp; omega)] at hz; cases hz
      rw [List.getElem?_append] at hk hl
      split at hk
      · split at hl
        · rw [upd_other m _ (by omega), upd_other m _ (by omega)]
          exact R.inj k l o o' hk hl ho ho' hne
        · have := one ‹_› hl
          subst this
          rw [upd_other m _ (by omega), upd_same]
          have := hlive hk ho
          show (m k).blk ≠ w.heap.size
          omega
      · have := one ‹_› hk
        subst this
        split at hl
        · rw [upd_same, upd_other m _ (by omega)]
          have := hlive hl ho'
          show w.heap.size ≠ (m l).blk
          omega
        · have := one ‹_› hl; omega
  refine ⟨_, _, _, _, _, hb, hrun, hE, R', ?_⟩
  simp only [VR, Id.ok]
  refine ⟨by simp, _, _, rfl, hcap, ?_, rfl, ?_, ?_, H.length, rfl, ?_⟩
  · simp [Id.blk]
  · simp [Id.beg]
  · simp [Id.beg]
  · simp only [upd_same]; show 0 + cap * 1 ≤ cap; omega

theorem bytes_nums {n : Nat} : ∀ {c : List AV} {xs : List Value} {s : List UInt8}, VRL n m c xs → bytesOfCells c = some s → ∃ ns : List Int, xs = ns.map (Value.int .u8) ∧ s = ns.map fun n => UInt8.ofNat n.toNat
  | [], xs, s, h, hb => by
    simp only [VRL] at h; subst h
    simp only [bytesOfCells] at hb; cases hb
    exact ⟨[], rfl, rfl⟩
  | .int .u8 i :: cs, xs, s, h, hb => by
    simp only [VRL] at h
    obtain ⟨x, r, rfl, hx, hr⟩ := h
    simp only [bytesOfCells] at hb
    cases hl : bytesOfCells cs with
    | none => rw [hl] at hb; cases hb
    | some s' =>
      rw [hl] at hb; cases hb
      simp only [VR] at hx; subst hx
      obtain ⟨ns, rfl, rfl⟩ := bytes_nums hr hl
      exact ⟨i :: ns, rfl, rfl⟩

/-- A slice's elements in the model. -/
theorem elems_ok (hB : BaseOk B W0) (R : Rel W0 m H w) {v : AV} {x : Value} (hv : VR H.length m v x) {c : List AV} (hc : elemsOf B H v = some c) :
    (v = .nils ∧ x = .slice none 0 0 ∧ c = []) ∨ ∃ a len cap es, x = .slice (some a) len cap ∧ lenOf v = some len ∧ ∃ xs : List Value, xs.length = len * es ∧ c.length = len * es ∧ VRL H.length m c xs ∧ Ones c ∧ (∀ j y, xs[j]? = some y → w.cell? (a.add j) = some y) ∧ (∃ o off cp, v = .slice o off len es cp) := by
  cases v with
  | nils => simp only [elemsOf] at hc; cases hc; simp only [VR] at hv; exact .inl ⟨rfl, hv, rfl⟩
  | slice o off len es cap =>
    refine .inr ?_
    simp only [elemsOf] at hc
    simp only [VR] at hv
    obtain ⟨hok, a', c', rfl, hle, hsl⟩ := hv
    obtain ⟨h0, xs, h1, h2, h3⟩ := R.cellsAt hB hc
    have hlen : c.length = len * es := by rw [← VRL_len h2, h1]
    refine ⟨a', len, c', es, rfl, rfl, xs, h1, hlen, h2, h0, ?_, o, off, cap, rfl⟩
    by_cases hz : len * es = 0
    · have : xs = [] := List.eq_nil_of_length_eq_zero (by omega)
      subst this
      intro j y hy; simp at hy
    · have hpos : 0 < len := by rcases Nat.eq_zero_or_pos len with h | h; simp [h] at hz; exact h
      have : a' = adr m o off := by
        cases cap with
        | some c'' => exact hsl.2 (by have := hsl.1; omega)
        | none =>
          obtain ⟨g1, g2, _, g3, _⟩ := hsl
          have := g3 hpos
          cases a'
          simp only at g1 g2 this
          simp [adr, g1, g2, this]
      subst this
      exact h3
  | _ => simp [elemsOf] at hc

theorem ok_toStr (hB : BaseOk B W0) (E : EnvR H.length m env a) (R : Rel W0 m H w) {s t e : TypeId} {x : Operand} {x' : Opd} (hs : P.underlying s = some (.slice e)) (ht : P.underlying t = some .string) (he : P.underlying e = some (.int .u8)) (hx : opd x = some x')
    (h : opK env x' fun v => ob (elemsOf B H v) fun c => ob (bytesOfCells c) fun s => if (lenOf v).getD 0 = c.length then K (.str s) H else False) : VOk P W0 m H w K (convert s t (a.eval x)) := by
  obtain ⟨v, ha, hv⟩ := opd_ok E hx h
  obtain ⟨c, hc, hb⟩ := ob_iff.1 ha
  obtain ⟨r, hr, hif⟩ := ob_iff.1 hb
  have hif' := hif
  split at hif'
  · rename_i hlen
    refine VOk.str R hif' ?_
    rcases elems_ok hB R hv hc with ⟨rfl, hxv, rfl⟩ | ⟨a', len, cap, es, hxv, hl, xs, h1, h2, h3, _, h4, o, off, cp, rfl⟩
    · rw [hxv]
      simp only [bytesOfCells] at hr; cases hr
      simp [convert, run_underlying hs, run_underlying ht, run_underlying he, Conv.bytesToString]
      rfl
    · rw [hxv]
      have hlen' : len = xs.length := by simp only [lenOf, Option.getD_some] at hlen; omega
      obtain ⟨ns, rfl, rfl⟩ := bytes_nums h3 hr
      have hload := run_loadCells_list (P := P) w a' _ h4
      rw [← hlen'] at hload
      rw [run_convert_bytes_string w s t e _ _ _ hs he ht, run_bytesToString w a' len cap ns hload, foldl_push_bytes]
      simp
  · exact hif'.elim

end

end Go.Am
