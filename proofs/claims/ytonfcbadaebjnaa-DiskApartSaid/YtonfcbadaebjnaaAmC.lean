/- What the translated operations do in the model, continued: a row is cleared, a row of bytes is marked. -/
import Derived.Test.YtonfcbadaebjnaaAm11
namespace Go.Am
open Go Go.RowKit

section
variable {P : Program} {B : Base} {W0 : Bw} {m : Plcs} {H : Heap} {w : World} {K : AV → Heap → Prop} {env : Env} {a : Act}

theorem ok_clearL (E : EnvR H.length m env a) (R : Rel W0 m H w) {t e ty : TypeId} {es b : Nat} {z : List AV} (ht : elemOfSlice P t = some e) (hi : infoOf P e = some (es, b)) (hz : zeroOf P e = some z) (hzl : z.length = es) {x : Operand} {x' : Opd} (hx : opd x = some x')
    (h : aop B env H K (.clearL es z x')) : VOk P W0 m H w K (Builtin.clear_ #[t] ty #[a.eval x]) := by
  simp only [aop] at h
  obtain ⟨v, ha, hv⟩ := opd_ok E hx h
  have hu := elemOfSlice_some ht
  split at ha
  · simp only [VR] at hv; rw [hv]
    refine ⟨_, _, m, .tuple #[], w, ha, ?_, ⟨Nat.le_refl _, fun _ _ => rfl⟩, R, by simp [VR]⟩
    simp [Builtin.clear_, run_underlying hu]
  · rename_i o off len es' cap
    split at ha
    · rename_i hes; subst hes
      simp only [VR] at hv
      obtain ⟨hok, a', c, hv, hsl⟩ := hv
      rw [hv]
      split at ha
      · rename_i h0; subst h0
        refine ⟨_, _, m, .tuple #[], w, ha, ?_, ⟨Nat.le_refl _, fun _ _ => rfl⟩, R, by simp [VR]⟩
        simp [Builtin.clear_, run_underlying hu]
      · rename_i h0
        obtain ⟨H', hp, hk⟩ := ob_iff.1 ha
        have hadr : a' = adr m o off := by
          cases cap with
          | some c'' => exact hsl.2.2 (by have := hsl.1; have := hsl.2.1; omega)
          | none =>
            obtain ⟨_, g1, g2, _, g3, _⟩ := hsl
            have := g3 (by omega)
            cases a'
            simp only at g1 g2 this
            simp [adr, g1, g2, this]
        subst hadr
        obtain ⟨zv, hzv, h2, h1⟩ := zeroOf_some (n := H.length) (m := m) hz
        have hrow : VRL H.length m (List.replicate len z).flatten (Builtin.zeroCells zv.cells len).toList := by
          unfold Builtin.zeroCells
          rw [zeros_list]
          exact VRL_flat h2 _
        obtain ⟨w', hw', R'⟩ := R.pokes (P := P) (i := off) (j := 0) hp (Ones_flat h1 _) hrow
        refine ⟨_, _, m, .tuple #[], w', hk, ?_, ⟨by rw [pokeAt_length hp]; exact Nat.le_refl _, fun _ _ => rfl⟩, R', by simp [VR]⟩
        obtain ⟨l, rfl⟩ : ∃ l, len = l + 1 := ⟨len - 1, by omega⟩
        simp [Builtin.clear_, run_underlying hu, hzv, hw']
    · exact ha.elim
  · exact ha.elim

theorem ok_convL (E : EnvR H.length m env a) (R : Rel W0 m H w) {s t e0 e : TypeId} {x : Operand} {x' : Opd} (hst : (s == t) = true) (hs : P.underlying s = some (.slice e0)) (ht : P.underlying t = some (.slice e)) (he : P.underlying e = some (.int .u8)) (hx : opd x = some x')
    (h : aop B env H K (.convL x')) : VOk P W0 m H w K (convert s t (a.eval x)) := by
  simp only [aop] at h
  obtain ⟨v, ha, hv⟩ := opd_ok E hx h
  split at ha
  · rename_i k off len es c
    split at ha
    · rename_i hc0
      split at ha
      · rename_i cs hk
        have hv0 := hv
        simp only [VR] at hv
        obtain ⟨hok, a', c', hv2, hsl1, hcc, hadr⟩ := hv
        have hadr := hadr hc0
        subst hadr
        obtain ⟨hB0, ac, ee, f, hb, hfr, h1, h2, h3, h4⟩ := R.objs k _ hk
        have hlt : (m k).blk < w.heap.size := (R.objs k _ hk).lt rfl
        have hff : (if f.1 == f.2 then (ac.size, ac.size + 1) else (min f.1 ac.size, max f.2 (ac.size + 1))) = (ac.size, ac.size + 1) := by
          rcases hfr with rfl | ⟨_, rfl⟩ <;> simp
        have hnew : (w.freeze ⟨(m k).blk, ac.size, none⟩ 1).heap[(m k).blk]? = some (.cells ac ee (ac.size, ac.size + 1)) := by
          simp only [World.freeze]
          rw [if_neg (by omega)]
          simp only [Array.getElem?_modify, if_true, hb, Option.map_some]
          obtain ⟨f1, f2⟩ := f
          simp only at hff
          simp only [hff]
        have hother : ∀ j, j ≠ (m k).blk → (w.freeze ⟨(m k).blk, ac.size, none⟩ 1).heap[j]? = w.heap[j]? := fun j hj => World.freeze_heap w _ _ _ (Ne.symm (Ne.symm hj))
        have hsz : (w.freeze ⟨(m k).blk, ac.size, none⟩ 1).heap.size = w.heap.size := by
          simp only [World.freeze]; rw [if_neg (by omega)]; simp
        have hos : (w.freeze ⟨(m k).blk, ac.size, none⟩ 1).os = w.os ∧ (w.freeze ⟨(m k).blk, ac.size, none⟩ 1).tape = w.tape ∧ (w.freeze ⟨(m k).blk, ac.size, none⟩ 1).output = w.output := by
          simp only [World.freeze]; rw [if_neg (by omega)]; exact ⟨rfl, rfl, rfl⟩
        have R' : Rel W0 m H (w.freeze ⟨(m k).blk, ac.size, none⟩ 1) := by
          refine ⟨R.below.trans hos.1 hos.2.1 hos.2.2 (by omega) (fun j hj => hother j (fun e => hB0 (by rw [← e]; exact hj))), fun j o hj => ?_, fun j j' o o' hj hj' ho ho' hne => R.inj j j' o o' hj hj' ho ho' hne⟩
          by_cases e1 : k = j
          · subst e1
            rw [hk] at hj; cases hj
            exact ⟨hB0, ac, ee, _, hnew, .inr ⟨rfl, rfl⟩, h1, h2, h3, h4⟩
          · refine ObjR_mono (Nat.le_refl _) (by rcases Nat.lt_or_ge j H.length with h' | h'; exact h'; simp [List.getElem?_eq_none h'] at hj) (fun _ _ => rfl) (fun hlv => hother _ ?_) (R.objs j o hj)
            exact fun he => R.inj k j _ o hk hj rfl hlv e1 he.symm
        refine ⟨_, _, m, a.eval x, _, ha, ?_, ⟨Nat.le_refl _, fun _ _ => rfl⟩, R', hv0⟩
        have hshape : w.shape? (m k).blk = some (ee, ac.size) := by simp [World.shape?, hb]
        rw [hv2]
        simp [convert, run_underlying hs, run_underlying ht, run_underlying he, hst, markStringish, adr, Id.blk, hshape]
      · exact ha.elim
    · exact ha.elim
  · exact ha.elim

end

end Go.Am
