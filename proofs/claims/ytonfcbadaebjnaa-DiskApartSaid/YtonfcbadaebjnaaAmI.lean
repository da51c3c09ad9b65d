/- The model's runs follow the abstract machine's: a map's next entry. -/
import Derived.Test.YtonfcbadaebjnaaAm12
import Derived.Maps.RangeRun
namespace Go.Am
open Go

section
variable {P : Program} {B : Base} {W0 : Bw} {m : Plcs} {H : Heap} {w : World} {K : AV → Heap → Prop} {env : Env} {a : Act}

theorem Rel.setIter (R : Rel W0 m H w) {k : Nat} {i : Option Id} {s l : Nat} {seen : List Nat} (hk : H[k]? = some (.iter i s seen l)) (seen' : List Nat) (l' : Nat) :
    Rel W0 m (H.set k (.iter i s seen' l')) { w with heap := w.heap.setIfInBounds (m k).blk (.mapIter (i.map (Id.blk m)) s seen'.toArray l') } := by
  have hi0 : k < H.length := by
    rcases Nat.lt_or_ge k H.length with h' | h'
    · exact h'
    · simp [List.getElem?_eq_none h'] at hk
  obtain ⟨hB0, h1, h2, h3⟩ := R.objs k _ hk
  have hlt : (m k).blk < w.heap.size := (R.objs k _ hk).lt rfl
  have hother : ∀ j, j ≠ (m k).blk → (w.heap.setIfInBounds (m k).blk (.mapIter (i.map (Id.blk m)) s seen'.toArray l'))[j]? = w.heap[j]? := fun j hj => Array.getElem?_setIfInBounds_ne (by omega)
  have back : ∀ {j : Nat} {o' : AObj}, (H.set k (.iter i s seen' l'))[j]? = some o' → o'.live = true → ∃ o'', H[j]? = some o'' ∧ o''.live = true := fun {j} {o'} hl hv => by
    rw [List.getElem?_set] at hl
    by_cases e1 : k = j
    · subst e1; exact ⟨_, hk, rfl⟩
    · rw [if_neg e1] at hl; exact ⟨o', hl, hv⟩
  refine ⟨R.below.trans rfl rfl rfl (by simp) (fun j hj => hother j (fun e => hB0 (by rw [← e]; exact hj))), fun j o hj => ?_, fun j j' o o' hj hj' ho ho' hne => ?_⟩
  · rw [List.length_set]
    rw [List.getElem?_set] at hj
    by_cases e1 : k = j
    · subst e1
      rw [if_pos rfl, if_pos hi0] at hj
      cases hj
      exact ⟨hB0, by simp [hlt], h2, h3⟩
    · rw [if_neg e1] at hj
      refine ObjR_mono (Nat.le_refl _) (by rcases Nat.lt_or_ge j H.length with h' | h'; exact h'; simp [List.getElem?_eq_none h'] at hj) (fun _ _ => rfl) (fun hlv => hother _ ?_) (R.objs j o hj)
      exact fun he => R.inj k j _ o hk hj rfl hlv e1 he.symm
  · obtain ⟨q1, hq1, hv1⟩ := back hj ho
    obtain ⟨q2, hq2, hv2⟩ := back hj' ho'
    exact R.inj j j' q1 q2 hq1 hq2 hv1 hv2 hne

theorem EntR_mem {n : Nat} : ∀ {es : List (AV × AV × Nat)} {l : List MapEntry}, EntR n m es l → ∀ {x : MapEntry}, x ∈ l → ∃ e, e ∈ es ∧ VR n m e.1 x.key ∧ VR n m e.2.1 x.val ∧ x.born = e.2.2
  | [], _, h, x, hx => by simp only [EntR] at h; subst h; simp at hx
  | (k, v, b) :: es, _, h, x, hx => by
    simp only [EntR] at h
    obtain ⟨e, r, rfl, h1, h2, h3, h4⟩ := h
    rcases List.mem_cons.1 hx with rfl | hx
    · exact ⟨(k, v, b), by simp, h1, h2, h3⟩
    · obtain ⟨e', h5, h6⟩ := EntR_mem h4 hx
      exact ⟨e', by simp [h5], h6⟩
theorem EntR_mem' {n : Nat} : ∀ {es : List (AV × AV × Nat)} {l : List MapEntry}, EntR n m es l → ∀ {e : AV × AV × Nat}, e ∈ es → ∃ x, x ∈ l ∧ x.born = e.2.2
  | [], _, h, e, he => by simp at he
  | (k, v, b) :: es, _, h, e, he => by
    simp only [EntR] at h
    obtain ⟨x, r, rfl, h1, h2, h3, h4⟩ := h
    rcases List.mem_cons.1 he with rfl | he
    · exact ⟨x, by simp, h3⟩
    · obtain ⟨x', h5, h6⟩ := EntR_mem' h4 he
      exact ⟨x', by simp [h5], h6⟩
theorem EntR_find {n : Nat} (b : Nat) : ∀ {es : List (AV × AV × Nat)} {l : List MapEntry}, EntR n m es l → ∀ {e : AV × AV × Nat}, es.find? (fun e => e.2.2 == b) = some e → ∃ x, l.find? (fun x => x.born == b) = some x ∧ VR n m e.1 x.key ∧ VR n m e.2.1 x.val
  | [], _, h, e, he => by simp at he
  | (k, v, b') :: es, _, h, e, he => by
    simp only [EntR] at h
    obtain ⟨x, r, rfl, h1, h2, h3, h4⟩ := h
    rw [List.find?_cons] at he ⊢
    rw [h3]
    by_cases hb : b' = b
    · subst hb
      simp only [beq_self_eq_true] at he ⊢
      cases he
      exact ⟨x, rfl, h1, h2⟩
    · have hb' : (b' == b) = false := by simpa using hb
      simp only [hb'] at he ⊢
      exact EntR_find b h4 he

theorem VR_new {n : Nat} {r : Nat} {x : Value} {o : Option Id} {s l : Nat} {seen : List Nat} (R : Rel W0 m H w) (hr : H[r]? = some (.iter o s seen l)) (hv : VR n m (.ptr (some (.new r, 0))) x) : x = .pointer (some ⟨(m r).blk, 0, none⟩) := by
  obtain ⟨_, _, _, h3⟩ := R.objs r _ hr
  simp only [VR] at hv
  rw [hv.2]
  simp [adr, Id.blk, Id.beg, h3]

theorem next_ok (E : EnvR H.length m env a) (R : Rel W0 m H w) {ty : TypeId} {x : Operand} {x' : Opd} (hx : opd x = some x') (h : nextK env H x' K) : VOk P W0 m H w K (Instr.next (a.eval x) false ty) := by
  obtain ⟨v, ha, hv⟩ := opd_ok E hx h
  have hover : VR H.length m (.tuple [.bool false]) (.tuple #[.bool false]) := by simp only [VR, VRL]; exact ⟨_, rfl, _, _, rfl, by simp [VR], rfl⟩
  split at ha
  · rename_i r
    split at ha
    · rename_i s seen l hr
      rw [VR_new R hr hv]
      obtain ⟨_, h1, _⟩ := R.objs r _ hr
      exact .same R ha (by simp [Instr.next, getObj, Sem.run, h1]) hover
    · rename_i mi since seen last hr
      rw [VR_new R hr hv]
      obtain ⟨_, h1, _, _⟩ := R.objs r _ hr
      split at ha
      · rename_i es clock hmi
        obtain ⟨_, l, h2, h3⟩ := R.objs mi _ hmi
        split at ha
        · rename_i hc
          simp only [Bool.and_eq_true, List.all_eq_true, decide_eq_true_eq] at hc
          obtain ⟨hover', hent⟩ := ha
          rcases run_next_at (P := P) w ty (m r).blk (m mi).blk since last seen.toArray l clock h1 h2 (fun x hx => by
            obtain ⟨e, he, _, _, hb⟩ := EntR_mem h3 hx
            rw [hb]; exact hc.1 e he) hc.2 with ⟨h0, hrun⟩ | ⟨e, he, w1, hw, hrun⟩
          · refine .same R (hover' fun e he => ?_) hrun hover
            obtain ⟨x, hx, hb⟩ := EntR_mem' h3 he
            cases hs : seen.contains e.2.2 with
            | true => rfl
            | false =>
              exfalso
              have : x ∈ leftOf l seen.toArray := by
                unfold leftOf
                refine Array.mem_filter.2 ⟨Array.mem_toList_iff.1 hx, ?_⟩
                rw [hb]
                simpa using hs
              have := Array.size_pos_of_mem this
              omega
          · obtain ⟨hel, hes⟩ := mem_left he
            obtain ⟨e', he', hk, hu, hb⟩ := EntR_mem h3 hel
            have R1 : Rel W0 m H w1 := by rcases hw with rfl | rfl; exact R; exact R.drew
            have hs : seen.contains e'.2.2 = false := by rw [← hb]; simpa using hes
            have hcl : last = last := rfl
            have R2 := R1.setIter hr (seen ++ [e'.2.2]) clock
            refine ⟨_, _, m, _, _, hent e' he' hs, hrun, ⟨by simp, fun _ _ => rfl⟩, ?_, ?_⟩
            · have e1 : (seen ++ [e'.2.2]).toArray = seen.toArray.push e.born := by rw [hb]; simp
              rw [e1] at R2
              exact R2
            · rw [List.length_set]
              simp only [VR, VRL]
              exact ⟨_, rfl, _, _, rfl, by simp, _, _, rfl, hk, _, _, rfl, hu, rfl⟩
        · exact ha.elim
      · exact ha.elim
    · exact ha.elim
  · exact ha.elim

theorem entry_ok (E : EnvR H.length m env a) (R : Rel W0 m H w) {x : Operand} {x' : Opd} (hx : opd x = some x') (h : entryK env H x' K) : VOk P W0 m H w K (Instr.entry (a.eval x)) := by
  obtain ⟨v, ha, hv⟩ := opd_ok E hx h
  split at ha
  · rename_i r
    split at ha
    · rename_i mi since seen last hr
      rw [VR_new R hr hv]
      obtain ⟨_, h1, _, _⟩ := R.objs r _ hr
      split at ha
      · rename_i es clock hmi
        obtain ⟨_, l, h2, h3⟩ := R.objs mi _ hmi
        split at ha
        · rename_i hc
          subst hc
          obtain ⟨b, hb, ha⟩ := ob_iff.1 ha
          obtain ⟨e, he, ha⟩ := ob_iff.1 ha
          obtain ⟨y, hy, hk, hu⟩ := EntR_find b h3 he
          have e1 : seen.toArray.back? = some b := by rw [← hb]; simp
          have e2 : l.find? (fun x => x.born == b) = some y := by rw [← Array.find?_toList]; exact hy
          refine .same R ha ?_ (show VR H.length m (.tuple [e.1, e.2.1]) (.tuple #[y.key, y.val]) from ?_)
          · simp [Instr.entry, getObj, Sem.run, h1, h2, e1, e2, Id.blk]
          · simp only [VR, VRL]
            exact ⟨_, rfl, _, _, rfl, hk, _, _, rfl, hu, rfl⟩
        · exact ha.elim
      · exact ha.elim
    · exact ha.elim
  · exact ha.elim
end

end Go.Am
