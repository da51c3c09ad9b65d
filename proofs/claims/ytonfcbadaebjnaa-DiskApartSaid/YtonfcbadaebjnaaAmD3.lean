/- A region that draws its order: the model's runs follow the abstract machine's, whatever the order; new objects may be made early. -/
import Derived.Test.YtonfcbadaebjnaaAmD2
import Derived.Test.YtonfcbadaebjnaaAmD0x
namespace Go.Am
open Go Go.RowKit

section
variable {P : Program} {B : Base} {W0 : Bw} {call : CallK} {L : List AStep} {an : Nat → List Nat} {ds : List (List Nat)} {order : List Nat} {K : Env → Heap → Prop}

theorem new_ins {i : Nat} (h : drawNew L an i = true) : (∃ o, (drawStep L i).ins = .op o ∧ o.isNew = true) ∧ (drawStep L i).guard = none ∧ ∀ x ∈ an i, drawObs L x = true := by
  simp only [drawNew, Bool.and_eq_true, List.all_eq_true, Option.isNone_iff_eq_none] at h
  refine ⟨?_, h.1.2, h.2⟩
  cases hi : (drawStep L i).ins with
  | op o => exact ⟨o, rfl, by have := h.1.1; rw [hi] at this; exact this⟩
  | call c as ty => have := h.1.1; rw [hi] at this; cases this
  | next x => have := h.1.1; rw [hi] at this; cases this
  | entry x => have := h.1.1; rw [hi] at this; cases this
  | bad n => have := h.1.1; rw [hi] at this; cases this
theorem new_notObs {i : Nat} (h : drawNew L an i = true) : drawObs L i = false := by
  obtain ⟨⟨o, h1, h2⟩, _⟩ := new_ins h
  simp only [drawObs, h1]
  cases o <;> simp only [AOp.isNew, Bool.false_eq_true] at h2 <;> rfl

theorem EnvR.unswap {n n' : Nat} {m : Plcs} {e : Env} {d : Option Nat} {u v : AV} {a : Act} (hv : ∀ x, VR n' m u x → VR n m v x) (hlow : ∀ t v, e.f t = some v → Low n v) (E : EnvR n' m (setD e d u) a) : EnvR n m (setD e d v) a := by
  cases d with
  | none => exact ⟨E.1, fun t w hw => low_vr (hlow t w hw) (E.2 t w hw)⟩
  | some d =>
    refine ⟨E.1, fun t w hw => ?_⟩
    simp only [setD] at hw E
    by_cases ht : t = d
    · subst ht
      have := E.2 t
      rw [Env.upd_self] at hw this
      cases hb : Nat.blt t e.n with
      | false => rw [hb] at hw; cases hw
      | true =>
        rw [hb] at hw this
        simp only [cond_true, Option.some.injEq] at hw this
        subst hw
        exact hv _ (this u rfl)
    · have := E.2 t w
      rw [Env.upd_ne ht] at hw this
      exact low_vr (hlow t w hw) (this hw)

/-- What is pending: an object that the model has made, and the machine not yet. -/
structure Pend (L : List AStep) (an : Nat → List Nat) (W0 : Bw) (done rem : List Nat) (n : Nat) (m : Plcs) (w : World) (env : Env) (ip : Nat × Plc) : Prop where
  isNew : drawNew L an ip.1 = true
  mem : ip.1 ∈ rem
  anc : ∀ x ∈ an ip.1, x ∈ done
  free : ¬ W0.kept ip.2.blk
  obj : ∃ o c, (drawStep L ip.1).ins = .op o ∧ newCells env o = some c ∧ PObj n m w ip.2 (newVar o) c

structure St (B : Base) (call : CallK) (L : List AStep) (an : Nat → List Nat) (W0 : Bw) (K : Env → Heap → Prop) (done rem : List Nat) (pd : List (Nat × Plc)) (env : Env) (H : Heap) (m : Plcs) (a : Act) (w : World) : Prop where
  run : runD B call L an done rem env H K
  er : EnvR H.length m (setP L pd env) a
  defers : a.defers = []
  rel : RelP W0 pd m H w
  pend : ∀ ip ∈ pd, Pend L an W0 done rem H.length m w env ip
  pdn : (pd.map Prod.fst).Nodup
  blk : pd.Pairwise fun x y => x.2.blk ≠ y.2.blk
  rlt : ∀ x ∈ rem, x < L.length
  dlt : ∀ x ∈ done, x < L.length
  apart : ∀ x ∈ done, x ∉ rem
  cover : ∀ x, x < L.length → x ∈ done ∨ x ∈ rem
  closed : ∀ j ∈ done, ∀ x ∈ an j, x ∈ done
  pair : rem.Pairwise fun x i => x ≠ i ∧ i ∉ an x ∧ (x ∈ an i ∨ drawObs L x = true ∨ drawNew L an i = true)

variable {done rem : List Nat} {pd : List (Nat × Plc)} {env : Env} {H : Heap} {m : Plcs} {a : Act} {w : World}

theorem St.pdne {p1 p2 : List (Nat × Plc)} {i : Nat} {q : Plc} (S : St B call L an W0 K done rem (p1 ++ (i, q) :: p2) env H m a w) : (∀ jp ∈ p1 ++ p2, jp.1 ≠ i ∧ jp.2.blk ≠ q.blk) ∧ ((p1 ++ p2).map Prod.fst).Nodup ∧ (p1 ++ p2).Pairwise fun x y => x.2.blk ≠ y.2.blk := by
  have h1 := S.pdn
  have h2 := S.blk
  have sub : (p1 ++ p2).Sublist (p1 ++ (i, q) :: p2) := (List.Sublist.refl p1).append (List.sublist_cons_self ..)
  refine ⟨fun jp hj => ?_, h1.sublist (sub.map _), h2.sublist sub⟩
  simp only [List.map_append, List.map_cons] at h1
  have hnd := List.nodup_append.1 h1
  have hpw := List.pairwise_append.1 h2
  rcases List.mem_append.1 hj with hj | hj
  · exact ⟨fun e => hnd.2.2 jp.1 (List.mem_map_of_mem hj) i (List.mem_cons_self ..) e, hpw.2.2 jp hj (i, q) (List.mem_cons_self ..)⟩
  · refine ⟨fun e => (List.nodup_cons.1 hnd.2.1).1 (e ▸ List.mem_map_of_mem hj), fun e => ?_⟩
    exact (List.pairwise_cons.1 hpw.2.1).1 jp hj e.symm

/-- Two of which the later one is not done: apart. -/
theorem St.free (ok : DrawOk L ds an order) (S : St B call L an W0 K done rem pd env H m a w) {i j : Nat} (hi : i < L.length) (hj : j ∈ rem) (hij : i ≠ j) (hai : ∀ x ∈ an i, x ∈ done) (hin : i ∉ an j) :
    (drawStep L i).free (drawStep L j).dst = true ∧ ∀ t, (drawStep L j).dst = some t → (drawStep L i).dst ≠ some t :=
  apart_free ((ok.apart i j hi (S.rlt j hj) hij fun hh => S.apart j (hai j hh) hj).resolve_right fun hl => hin (hl i hi hij))

theorem stepK_ext {s : AStep} (hs : s.ins.looksOnly = true) {env : Env} {H : Heap} {x : AObj} {K : Env → Heap → Prop} (h : stepK B call s env H K) :
    ∃ v, K (setD env s.dst v) H ∧ (∀ K' : Env → Heap → Prop, K' (setD env s.dst v) H → stepK B call s env H K') ∧ ∀ K' : Env → Heap → Prop, K' (setD env s.dst v) (H ++ [x]) → stepK B call s env (H ++ [x]) K' := by
  obtain ⟨dst, guard, ins⟩ := s
  cases ins with
  | op o =>
    have ho : o.looksOnly = true := hs
    unfold stepK at h
    have key : ∀ {K}, insK B call env H (fun v H' => resK env dst v H' K) (.op o) → ∃ v, K (setD env dst v) H ∧ (∀ K' : Env → Heap → Prop, K' (setD env dst v) H → insK B call env H (fun v H' => resK env dst v H' K') (.op o)) ∧
        ∀ K' : Env → Heap → Prop, K' (setD env dst v) (H ++ [x]) → insK B call env (H ++ [x]) (fun v H' => resK env dst v H' K') (.op o) := fun {K} h => by
      obtain ⟨u, g1, g2⟩ := aop_obs (B := B) (H := H) (env := env) o ho (fun v H' => resK env dst v H' K) h
      obtain ⟨v, h1, h2⟩ := aop_ext (B := B) (H := H) (x := x) (env := env) o ho (fun w H' => (w = u ∧ H' = H)) (g2 (fun w H' => w = u ∧ H' = H) ⟨rfl, rfl⟩)
      obtain ⟨rfl, _⟩ := h1
      rw [resK_setD] at g1
      exact ⟨v, g1, fun K' hk => g2 (fun v H' => resK env dst v H' K') (by rw [resK_setD]; exact hk), fun K' hk => h2 (fun v H' => resK env dst v H' K') (by rw [resK_setD]; exact hk)⟩
    rcases guard with _ | ⟨_ | j, want⟩
    · obtain ⟨v, h1, h2, h3⟩ := key h
      exact ⟨v, h1, fun K' hk => h2 K' hk, fun K' hk => h3 K' hk⟩
    · exact h.elim
    · simp only at h
      obtain ⟨u, hu, hp⟩ := ob_iff.1 h
      rcases pGuard_iff.1 hp with ⟨b, rfl, hq⟩ | ⟨rfl, hq⟩
      · by_cases hb : b = want
        · rw [if_pos hb] at hq
          obtain ⟨v, h1, h2, h3⟩ := key hq
          refine ⟨v, h1, fun K' hk => ?_, fun K' hk => ?_⟩
          · simp only [stepK, hu, ob_some, pGuard_bool, if_pos hb]
            exact h2 K' hk
          · simp only [stepK, hu, ob_some, pGuard_bool, if_pos hb]
            exact h3 K' hk
        · rw [if_neg hb, resK_setD] at hq
          refine ⟨.tuple [], hq, fun K' hk => ?_, fun K' hk => ?_⟩
          · simp only [stepK, hu, ob_some, pGuard_bool, if_neg hb]
            rw [resK_setD]; exact hk
          · simp only [stepK, hu, ob_some, pGuard_bool, if_neg hb]
            rw [resK_setD]; exact hk
      · rw [resK_setD] at hq
        refine ⟨.tuple [], hq, fun K' hk => ?_, fun K' hk => ?_⟩
        · simp only [stepK, hu, ob_some, pGuard_skip]
          rw [resK_setD]; exact hk
        · simp only [stepK, hu, ob_some, pGuard_skip]
          rw [resK_setD]; exact hk
  | call c as ty => cases hs
  | next x => cases hs
  | entry x => cases hs
  | bad n => cases hs

/-- A new object comes first. -/
theorem runD_new (hc : CLe call call) (ok : DrawOk L ds an order) {i : Nat} {r2 : List Nat} (hi : i < L.length) (hnew : drawNew L an i = true) {o : AOp} (ho : (drawStep L i).ins = .op o) :
    ∀ (r1 done : List Nat) (env : Env) (H : Heap), (∀ x ∈ r1, x < L.length ∧ x ≠ i ∧ i ∉ an x ∧ x ∉ an i ∧ drawObs L x = true) →
      runD B call L an done (r1 ++ i :: r2) env H K → ∃ c, newCells env o = some c ∧ runD B call L an (i :: done) (r1 ++ r2) (setD env (drawStep L i).dst (newVal o (.new H.length))) (H ++ [newObj o c]) K
  | [], done, env, H, _, h => by
    obtain ⟨⟨o', ho', hisn⟩, hguard, _⟩ := new_ins hnew
    rw [ho] at ho'; cases ho'
    simp only [List.nil_append, runD] at h
    unfold stepK at h
    rw [hguard, ho] at h
    simp only [insK] at h
    obtain ⟨c, h1, h2⟩ := (new_form hisn).1 h
    rw [resK_setD] at h2
    exact ⟨c, h1, h2.2⟩
  | x :: r1, done, env, H, hr, h => by
    obtain ⟨hxl, hxi, hix, hxa, hxo⟩ := hr x (List.mem_cons_self ..)
    have hxo' : (drawStep L x).ins.looksOnly = true := hxo
    simp only [List.cons_append, runD] at h
    have api := apart_free ((ok.apart i x hi hxl (Ne.symm hxi) hxa).resolve_right fun hl => hix (hl i hi (Ne.symm hxi)))
    have apx := apart_free ((ok.apart x i hxl hi hxi hix).resolve_right fun hl => hxa (hl x hxl hxi))
    obtain ⟨v0, h10, _⟩ := stepK_obs hxo' h
    obtain ⟨c, h2, h3⟩ := runD_new hc ok hi hnew ho r1 (x :: done) _ H (fun y hy => hr y (List.mem_cons_of_mem _ hy)) h10.2
    obtain ⟨v, h1, hobs, hext⟩ := stepK_ext (x := newObj o c) hxo' h
    obtain ⟨c', h2', h3'⟩ := runD_new hc ok hi hnew ho r1 (x :: done) _ H (fun y hy => hr y (List.mem_cons_of_mem _ hy)) h1.2
    rw [newCells_setD ho api.1] at h2 h2'
    rw [h2] at h2'; cases h2'
    refine ⟨c, h2, ?_⟩
    simp only [List.cons_append, runD]
    rw [stepK_setD apx.1 apx.2]
    refine hext _ ⟨fun hh => (by rw [hxo] at hh; cases hh), runD_sub hc (fun y hy => ?_) h3'⟩
    simp only [List.mem_cons] at hy ⊢
    rcases hy with h | h | h
    · exact .inr (.inl h)
    · exact .inl h
    · exact .inr (.inr h)

/-- A step is met first. -/
theorem St.first (hc : CLe call call) (ok : DrawOk L ds an order) {r1 r2 : List Nat} {i : Nat} (S : St B call L an W0 K done (r1 ++ i :: r2) pd env H m a w) (hr1 : ∀ x ∈ r1, drawObs L x = true) (hai : ∀ x ∈ an i, x ∈ done) :
    stepK B call (drawStep L i) env H fun env' H' => runD B call L an (i :: done) (r1 ++ r2) env' H' K := by
  have hp := List.pairwise_append.1 S.pair
  have hil := S.rlt i (by simp)
  by_cases hw : drawNew L an i = true
  · obtain ⟨⟨o, ho, hisn⟩, hguard, _⟩ := new_ins hw
    obtain ⟨c, h1, h2⟩ := runD_new hc ok hil hw ho r1 done env H (fun x hx => ⟨S.rlt x (List.mem_append_left _ hx), (hp.2.2 x hx i (List.mem_cons_self ..)).1, (hp.2.2 x hx i (List.mem_cons_self ..)).2.1, fun hh => S.apart x (hai x hh) (List.mem_append_left _ hx), hr1 x hx⟩) S.run
    unfold stepK
    rw [hguard, ho]
    simp only [insK]
    exact (new_form hisn).2 ⟨c, h1, by rw [resK_setD]; exact h2⟩
  have := runD_first hc ok (i := i) (r2 := r2) (K := K) hil (by simpa using hw) r1 done env H
    (fun x hx => ⟨S.rlt x (List.mem_append_left _ hx), (hp.2.2 x hx i (List.mem_cons_self ..)).1, (hp.2.2 x hx i (List.mem_cons_self ..)).2.1, fun hh => S.apart x (hai x hh) (List.mem_append_left _ hx), hr1 x hx⟩)
    (fun y hy => ⟨S.dlt y hy, fun x hx => ⟨fun e => S.apart y hy (e ▸ List.mem_append_left _ hx), fun hh => S.apart x (S.closed y hy x hh) (List.mem_append_left _ hx)⟩⟩)
    (hp.1.imp fun hh => ⟨hh.1, hh.2.1⟩) S.run
  exact stepK_mono hc (fun e h hh => hh.2) this

/-- What the lists are behind a step. -/
theorem St.lists {r1 r2 : List Nat} {i : Nat} (S : St B call L an W0 K done (r1 ++ i :: r2) pd env H m a w) (hai : ∀ x ∈ an i, x ∈ done) :
    (∀ x ∈ r1 ++ r2, x < L.length) ∧ (∀ x ∈ i :: done, x < L.length) ∧ (∀ x ∈ i :: done, x ∉ r1 ++ r2) ∧ (∀ x, x < L.length → x ∈ i :: done ∨ x ∈ r1 ++ r2) ∧ (∀ j ∈ i :: done, ∀ x ∈ an j, x ∈ i :: done) ∧
      (r1 ++ r2).Pairwise (fun x i => x ≠ i ∧ i ∉ an x ∧ (x ∈ an i ∨ drawObs L x = true ∨ drawNew L an i = true)) := by
  have hp := List.pairwise_append.1 S.pair
  have hmem : ∀ {x}, x ∈ r1 ++ r2 → x ∈ r1 ++ i :: r2 := fun hx => by
    rcases List.mem_append.1 hx with hx | hx
    · exact List.mem_append_left _ hx
    · exact List.mem_append_right _ (List.mem_cons_of_mem _ hx)
  have hne : ∀ {x}, x ∈ r1 ++ r2 → x ≠ i := fun hx => by
    rcases List.mem_append.1 hx with hx | hx
    · exact (hp.2.2 _ hx i (List.mem_cons_self ..)).1
    · exact fun e => ((List.pairwise_cons.1 hp.2.1).1 _ hx).1 e.symm
  refine ⟨fun x hx => S.rlt x (hmem hx), fun x hx => ?_, fun x hx => ?_, fun x hx => ?_, fun j hj x hx => ?_, ?_⟩
  · rcases List.mem_cons.1 hx with rfl | hx
    · exact S.rlt x (by simp)
    · exact S.dlt x hx
  · rcases List.mem_cons.1 hx with rfl | hx
    · exact fun hh => hne hh rfl
    · exact fun hh => S.apart x hx (hmem hh)
  · rcases S.cover x hx with h | h
    · exact .inl (List.mem_cons_of_mem _ h)
    · rcases List.mem_append.1 h with h | h
      · exact .inr (List.mem_append_left _ h)
      · rcases List.mem_cons.1 h with rfl | h
        · exact .inl (List.mem_cons_self ..)
        · exact .inr (List.mem_append_right _ h)
  · rcases List.mem_cons.1 hj with rfl | hj
    · exact List.mem_cons_of_mem _ (hai x hx)
    · exact List.mem_cons_of_mem _ (S.closed j hj x hx)
  · rw [List.pairwise_append]
    exact ⟨hp.1, (List.pairwise_cons.1 hp.2.1).2, fun x hx y hy => hp.2.2 x hx y (List.mem_cons_of_mem _ hy)⟩

/-- One that is pending: the machine comes to it. -/
theorem St.flush (hc : CLe call call) (ok : DrawOk L ds an order) {r1 r2 : List Nat} {p1 p2 : List (Nat × Plc)} {i : Nat} {q : Plc} (S : St B call L an W0 K done (r1 ++ i :: r2) (p1 ++ (i, q) :: p2) env H m a w) (hr1 : ∀ x ∈ r1, drawObs L x = true) :
    ∃ env' H' m', St B call L an W0 K (i :: done) (r1 ++ r2) (p1 ++ p2) env' H' m' a w ∧ Ext m m' H H' ∧ ∃ v, env' = setD env (drawStep L i).dst v := by
  have Pi := S.pend (i, q) (by simp)
  obtain ⟨o, c, ho, hcells, hobj⟩ := Pi.obj
  obtain ⟨⟨o', ho', hnew⟩, hguard, _⟩ := new_ins Pi.isNew
  rw [ho] at ho'; cases ho'
  have hil := S.rlt i (by simp)
  obtain ⟨hne, hnd, hpw⟩ := S.pdne
  have hf := S.first hc ok hr1 Pi.anc
  unfold stepK at hf
  rw [hguard, ho] at hf
  simp only [insK] at hf
  obtain ⟨c', hc', hf⟩ := (new_form hnew).1 hf
  rw [hcells] at hc'; cases hc'
  rw [resK_setD] at hf
  have hE := Ext.upd m H q (newObj o c)
  obtain ⟨l1, l2, l3, l4, l5, l6⟩ := S.lists Pi.anc
  have hfree : ∀ jp ∈ p1 ++ p2, (drawStep L jp.1).free (drawStep L i).dst = true ∧ ∀ t, (drawStep L i).dst = some t → (drawStep L jp.1).dst ≠ some t := fun jp hj => by
    have Pj := S.pend jp (by
      rcases List.mem_append.1 hj with h | h
      · exact List.mem_append_left _ h
      · exact List.mem_append_right _ (List.mem_cons_of_mem _ h))
    exact S.free ok (S.rlt _ Pj.mem) (by simp) (hne jp hj).1 Pj.anc fun hh => S.apart _ (Pi.anc _ hh) Pj.mem
  refine ⟨_, _, upd m H.length q, ⟨hf, ?_, S.defers, S.rel.thaw Pi.free (fun jp hj => (hne jp hj).2) hobj, fun jp hj => ?_, hnd, hpw, l1, l2, l3, l4, l5, l6⟩, hE, _, rfl⟩
  · have E := S.er
    rw [setP_mid (fun jp hj t ht hh => (hfree jp (List.mem_append_left _ hj)).2 t hh ht)] at E
    rw [setP_setD (fun jp hj t ht hh => (hfree jp hj).2 t hh ht)]
    refine E.swap (by simp) hE.same fun x hx => ?_
    simp only [pval, ho] at hx
    exact newVal_new (upd_same ..) (by simp) hx
  · have Pj := S.pend jp (by
      rcases List.mem_append.1 hj with h | h
      · exact List.mem_append_left _ h
      · exact List.mem_append_right _ (List.mem_cons_of_mem _ h))
    obtain ⟨oj, cj, g1, g2, g3⟩ := Pj.obj
    refine ⟨Pj.isNew, ?_, fun x hx => List.mem_cons_of_mem _ (Pj.anc x hx), Pj.free, oj, cj, g1, ?_, g3.mono (by simp) hE.same rfl⟩
    · rcases List.mem_append.1 Pj.mem with h | h
      · exact List.mem_append_left _ h
      · rcases List.mem_cons.1 h with h | h
        · exact absurd h (hne jp hj).1
        · exact List.mem_append_right _ h
    · rw [newCells_setD g1 (hfree jp hj).1]; exact g2

/-- A step, in the model and by the machine. -/
theorem St.step (hB : BaseOk B W0) (hcall : CallAll P B call) (hc : CLe call call) {ops : Array Oper} (ok : DrawOk (ops.toList.map (compStep P ops)) ds an order) {r1 r2 : List Nat} {i : Nat} {o : Oper} (ho : ops[i]? = some o)
    (S : St B call (ops.toList.map (compStep P ops)) an W0 K done (r1 ++ i :: r2) pd env H m a w) (hr1 : ∀ x ∈ r1, drawObs (ops.toList.map (compStep P ops)) x = true) (hai : ∀ x ∈ an i, x ∈ done) (hnp : i ∉ pd.map Prod.fst)
    {next : Act → World → Prop} {Q : Exit → Act → World → Prop}
    (hn : ∀ env' H' m' a' w', St B call (ops.toList.map (compStep P ops)) an W0 K (i :: done) (r1 ++ r2) pd env' H' m' a' w' → Ext m m' H H' → (∃ v, env' = setD env (drawStep (ops.toList.map (compStep P ops)) i).dst v) → next a' w') :
    if Region.wanted o (yielded ops a.tmps) then o.wp P a w next Q else next (a.put o.dst undef) w := by
  have hst : drawStep (ops.toList.map (compStep P ops)) i = compStep P ops o := by simp [drawStep, List.getD, ho]
  generalize hL : ops.toList.map (compStep P ops) = L at *
  have hf := S.first hc ok hr1 hai
  have hil := S.rlt i (by simp)
  rw [← stepK_form] at hf
  have pne : ∀ jp ∈ pd, jp.1 ≠ i := fun jp hj e => hnp (e ▸ List.mem_map_of_mem hj)
  have hfr : ∀ jp ∈ pd, (drawStep L i).free (drawStep L jp.1).dst = true ∧ ∀ t, (drawStep L jp.1).dst = some t → (drawStep L i).dst ≠ some t := fun jp hj =>
    S.free ok hil (S.pend jp hj).mem (Ne.symm (pne jp hj)) hai fun hh => S.apart i ((S.pend jp hj).anc i hh) (by simp)
  have hfr2 : ∀ jp ∈ pd, (drawStep L jp.1).free (drawStep L i).dst = true ∧ ∀ t, (drawStep L i).dst = some t → (drawStep L jp.1).dst ≠ some t := fun jp hj =>
    S.free ok (S.rlt _ (S.pend jp hj).mem) (by simp) (pne jp hj) (S.pend jp hj).anc fun hh => S.apart _ (hai _ hh) (S.pend jp hj).mem
  have hK : stepK B call (drawStep L i) (setP L pd env) H fun e h => ∃ env', e = setP L pd env' ∧ (∃ v, env' = setD env (drawStep L i).dst v) ∧ runD B call L an (i :: done) (r1 ++ r2) env' h K := by
    rw [stepK_setP hfr]
    exact stepK_mono hc (fun e h hh => ⟨e, rfl, hh⟩) hf
  rw [hst] at hK
  obtain ⟨l1, l2, l3, l4, l5, l6⟩ := S.lists hai
  refine step_ok (RelP.base hB S.rel) (hcall _ (RelP.base hB S.rel)) S.er S.defers S.rel.rel hK fun e' H' m' a' w' hk E' hd' hX' R' => ?_
  obtain ⟨env', rfl, hv, hrun⟩ := hk
  have hv' : ∃ v, env' = setD env (drawStep L i).dst v := by rw [hst]; exact hv
  refine hn env' H' m' a' w' ⟨hrun, E', hd', S.rel.back R', fun jp hj => ?_, S.pdn, S.blk, l1, l2, l3, l4, l5, l6⟩ hX' hv'
  have Pj := S.pend jp hj
  obtain ⟨oj, cj, g1, g2, g3⟩ := Pj.obj
  refine ⟨Pj.isNew, ?_, fun x hx => List.mem_cons_of_mem _ (Pj.anc x hx), Pj.free, oj, cj, g1, ?_, g3.mono hX'.len hX'.same (R'.below.block _ (.inr ⟨jp, hj, rfl⟩))⟩
  · rcases List.mem_append.1 Pj.mem with h | h
    · exact List.mem_append_left _ h
    · rcases List.mem_cons.1 h with h | h
      · exact absurd h (pne jp hj)
      · exact List.mem_append_right _ h
  · obtain ⟨v, rfl⟩ := hv'
    rw [newCells_setD g1 (hfr2 jp hj).1]; exact g2

/-- What a new one needs is known, whatever comes ahead of it. -/
theorem St.cells (hB : BaseOk B W0) (hcall : CallAll P B call) (hc : CLe call call) {ops : Array Oper} (ok : DrawOk (ops.toList.map (compStep P ops)) ds an order) {r2 : List Nat} {i : Nat} (hnew : drawNew (ops.toList.map (compStep P ops)) an i = true) {o : AOp} (ho : (drawStep (ops.toList.map (compStep P ops)) i).ins = .op o) :
    ∀ (r1 : List Nat) {done : List Nat} {pd : List (Nat × Plc)} {env : Env} {H : Heap} {m : Plcs} {a : Act} {w : World}, St B call (ops.toList.map (compStep P ops)) an W0 K done (r1 ++ i :: r2) pd env H m a w → (∀ x ∈ an i, x ∈ done) → ∃ c, newCells env o = some c := by
  obtain ⟨⟨o', ho', hisn⟩, hguard, _⟩ := new_ins hnew
  rw [ho] at ho'; cases ho'
  intro r1
  induction r1 with
  | nil =>
    intro done pd env H m a w S hai
    have hf := S.first hc ok (r1 := []) (by simp) hai
    unfold stepK at hf
    rw [hguard, ho] at hf
    simp only [insK] at hf
    obtain ⟨c, h1, _⟩ := (new_form hisn).1 hf
    exact ⟨c, h1⟩
  | cons x r1 ih =>
    intro done pd env H m a w S hai
    have hp := (List.pairwise_cons.1 S.pair).1
    have hxi := hp i (by simp)
    have hxl := S.rlt x (by simp)
    have hax : ∀ y ∈ an x, y ∈ done := fun y hy => by
      rcases S.cover y (ok.anclt x hxl y hy) with h | h
      · exact h
      · rcases List.mem_cons.1 h with rfl | h
        · exact absurd hy (ok.irr y hxl)
        · exact absurd hy (hp y h).2.1
    have hfree := (S.free ok (S.rlt i (by simp)) (List.mem_cons_self ..) (Ne.symm hxi.1) hai hxi.2.1).1
    by_cases hpx : x ∈ pd.map Prod.fst
    · obtain ⟨⟨x', q⟩, hq, rfl⟩ := List.mem_map.1 hpx
      obtain ⟨p1, p2, rfl⟩ := List.append_of_mem hq
      obtain ⟨env', H', m', S', hX, v, rfl⟩ := S.flush hc ok (r1 := []) (by simp)
      obtain ⟨c, hcells⟩ := ih S' fun y hy => List.mem_cons_of_mem _ (hai y hy)
      rw [newCells_setD ho hfree] at hcells
      exact ⟨c, hcells⟩
    · have hx0 : x < ops.size := by simpa using hxl
      have := S.step hB hcall hc ok (r1 := []) (o := ops[x]) (by simp [hx0]) (by simp) hax hpx (next := fun _ _ => ∃ c, newCells env o = some c) (Q := fun _ _ _ => False) fun env' H' m' a' w' S' hX hv => by
        obtain ⟨v, rfl⟩ := hv
        obtain ⟨c, hcells⟩ := ih S' fun y hy => List.mem_cons_of_mem _ (hai y hy)
        rw [newCells_setD ho hfree] at hcells
        exact ⟨c, hcells⟩
      split at this
      · exact wp_G this
      · exact this

/-- The model makes a new object early. -/
theorem St.early (hB : BaseOk B W0) (hcall : CallAll P B call) (hc : CLe call call) {ops : Array Oper} (ok : DrawOk (ops.toList.map (compStep P ops)) ds an order) {r1 r2 : List Nat} {i : Nat} {o : Oper} (ho : ops[i]? = some o)
    (S : St B call (ops.toList.map (compStep P ops)) an W0 K done (r1 ++ i :: r2) pd env H m a w) (hnew : drawNew (ops.toList.map (compStep P ops)) an i = true) (hai : ∀ x ∈ an i, x ∈ done) (hnp : i ∉ pd.map Prod.fst)
    {next : Act → World → Prop} {Q : Exit → Act → World → Prop}
    (hn : ∀ m' q a' w', St B call (ops.toList.map (compStep P ops)) an W0 K done (r1 ++ i :: r2) ((i, q) :: pd) env H m' a' w' → Ext m m' H H → next a' w') :
    if Region.wanted o (yielded ops a.tmps) then o.wp P a w next Q else next (a.put o.dst undef) w := by
  have hst : drawStep (ops.toList.map (compStep P ops)) i = compStep P ops o := by simp [drawStep, List.getD, ho]
  obtain ⟨⟨ao, hao, hisn⟩, hguard, _⟩ := new_ins hnew
  obtain ⟨c, hcells⟩ := S.cells hB hcall hc ok hnew hao r1 hai
  generalize hL : ops.toList.map (compStep P ops) = L at *
  have hil := S.rlt i (by simp)
  have pne : ∀ jp ∈ pd, jp.1 ≠ i := fun jp hj e => hnp (e ▸ List.mem_map_of_mem hj)
  have hfr : ∀ jp ∈ pd, (drawStep L i).free (drawStep L jp.1).dst = true ∧ ∀ t, (drawStep L jp.1).dst = some t → (drawStep L i).dst ≠ some t := fun jp hj =>
    S.free ok hil (S.pend jp hj).mem (Ne.symm (pne jp hj)) hai fun hh => S.apart i ((S.pend jp hj).anc i hh) (by simp)
  have hcells' : newCells (setP L pd env) ao = some c := by rw [newCells_setP hao fun ip h => (hfr ip h).1]; exact hcells
  have hlow : LowL H.length c := newCells_low S.er hisn hcells'
  have hK : stepK B call (drawStep L i) (setP L pd env) H fun e h => e = setD (setP L pd env) (drawStep L i).dst (newVal ao (.new H.length)) ∧ h = H ++ [newObj ao c] := by
    unfold stepK
    rw [hguard, hao]
    simp only [insK]
    exact (new_form hisn).2 ⟨c, hcells', by rw [resK_setD]; exact ⟨rfl, rfl⟩⟩
  rw [hst] at hK
  refine step_ok (RelP.base hB S.rel) (hcall _ (RelP.base hB S.rel)) S.er S.defers S.rel.rel hK fun e' H' m' a' w' hk E' hd' hX' R' => ?_
  obtain ⟨rfl, rfl⟩ := hk
  have hlast : (H ++ [newObj ao c])[H.length]? = some (newObj ao c) := by simp
  have hobj := R'.objs _ _ hlast
  have hblk := hobj.ge (newObj_live ao c)
  refine hn m' (m' H.length) a' w' ⟨S.run, ?_, hd', S.rel.freeze R' (newObj_live ao c) i, fun jp hj => ?_, ?_, ?_, S.rlt, S.dlt, S.apart, S.cover, S.closed, S.pair⟩ ⟨Nat.le_refl _, hX'.same⟩
  · simp only [setP]
    rw [hst]
    have hp : pval L (i, m' H.length) = newVal ao (.base (m' H.length).blk (65536 * (m' H.length).base)) := by simp only [pval, hao]
    rw [hp]
    have E2 : EnvR (H.length + 1) m' (setD (setP L pd env) (compStep P ops o).dst (newVal ao (.new H.length))) a' := by simpa using E'
    exact EnvR.unswap (fun x hx => newVal_base hx) (fun t v hv => low_of_VR _ _ (S.er.2 t v hv)) E2
  · rcases List.mem_cons.1 hj with rfl | hj
    · exact ⟨hnew, by simp, hai, fun hb => hblk (.inl hb), ao, c, hao, hcells, PObj.of hlow hobj⟩
    · have Pj := S.pend jp hj
      obtain ⟨oj, cj, g1, g2, g3⟩ := Pj.obj
      exact ⟨Pj.isNew, Pj.mem, Pj.anc, Pj.free, oj, cj, g1, g2, g3.mono (Nat.le_refl _) hX'.same (R'.below.block _ (.inr ⟨jp, hj, rfl⟩))⟩
  · simp only [List.map_cons, List.nodup_cons]; exact ⟨hnp, S.pdn⟩
  · refine List.pairwise_cons.2 ⟨fun jp hj e => hblk (.inr ⟨jp, hj, e.symm⟩), S.blk⟩
end
end Go.Am
