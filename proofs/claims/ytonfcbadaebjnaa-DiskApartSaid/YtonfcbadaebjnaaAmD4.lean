/- A region that draws its order: the model's runs follow the abstract machine's, whatever the order. -/
import Derived.Test.YtonfcbadaebjnaaAmD3
import Derived.Orders
namespace Go.Am
open Go Go.RowKit

section
variable {P : Program} {B : Base} {W0 : Bw} {call : CallK} {L : List AStep} {an : Nat → List Nat} {ds : List (List Nat)} {order : List Nat} {K : Env → Heap → Prop}
  {done rem : List Nat} {pd : List (Nat × Plc)} {env : Env} {H : Heap} {m : Plcs} {a : Act} {w : World}

/-- Those of a list that are pending are come to. -/
theorem St.flushes (hc : CLe call call) (ok : DrawOk L ds an order) {r2 : List Nat} : ∀ (r1b r1a : List Nat) {done : List Nat} {pd : List (Nat × Plc)} {env : Env} {H : Heap} {m : Plcs},
    St B call L an W0 K done (r1a ++ (r1b ++ r2)) pd env H m a w → (∀ x ∈ r1a, drawObs L x = true) → (∀ x ∈ r1b, drawObs L x = true ∨ x ∈ pd.map Prod.fst) →
    ∃ done' r1' pd' env' H' m', St B call L an W0 K done' (r1' ++ r2) pd' env' H' m' a w ∧ Ext m m' H H' ∧ (∀ x ∈ r1', drawObs L x = true) ∧ (∀ x ∈ r1', x ∈ r1a ∨ (x ∈ r1b ∧ x ∉ pd.map Prod.fst)) ∧
      (∀ x, x ∈ done' ∨ x ∈ pd'.map Prod.fst ↔ x ∈ done ∨ x ∈ pd.map Prod.fst) ∧ (∀ x ∈ done, x ∈ done') ∧ r1'.length + pd.length = (r1a ++ r1b).length + pd'.length
  | [], r1a, done, pd, env, H, m, S, ha, _ => ⟨done, r1a, pd, env, H, m, by simpa using S, Ext.refl _ _, ha, fun x hx => .inl hx, fun _ => Iff.rfl, fun _ h => h, by simp⟩
  | x :: r1b, r1a, done, pd, env, H, m, S, ha, hb => by
    by_cases hpx : x ∈ pd.map Prod.fst
    · obtain ⟨⟨x', q⟩, hq, rfl⟩ := List.mem_map.1 hpx
      obtain ⟨p1, p2, rfl⟩ := List.append_of_mem hq
      obtain ⟨hne, hnd, hpw⟩ := S.pdne
      have hnx : ∀ y ∈ r1b, y ≠ x' := fun y hy e => by
        have hp := (List.pairwise_append.1 S.pair).2.1
        rw [List.cons_append] at hp
        exact ((List.pairwise_cons.1 hp).1 y (List.mem_append_left _ hy)).1 e.symm
      obtain ⟨env', H', m', S', hX, _⟩ := S.flush hc ok (r1 := r1a) ha
      have hmem : ∀ y, y ∈ (p1 ++ (x', q) :: p2).map Prod.fst ↔ y = x' ∨ y ∈ (p1 ++ p2).map Prod.fst := fun y => by
        simp only [List.map_append, List.map_cons, List.mem_append, List.mem_cons]
        constructor
        · rintro (h | h | h)
          · exact .inr (.inl h)
          · exact .inl h
          · exact .inr (.inr h)
        · rintro (h | h | h)
          · exact .inr (.inl h)
          · exact .inl h
          · exact .inr (.inr h)
      obtain ⟨done', r1', pd', env2, H2, m2, S2, hX2, g1, g2, g3, g4, g5⟩ := St.flushes hc ok r1b r1a S' ha fun y hy => by
        rcases hb y (List.mem_cons_of_mem _ hy) with h | h
        · exact .inl h
        · rcases (hmem y).1 h with h | h
          · exact absurd h (hnx y hy)
          · exact .inr h
      refine ⟨done', r1', pd', env2, H2, m2, S2, hX.trans hX2, g1, fun y hy => ?_, fun y => ?_, fun y hy => g4 y (List.mem_cons_of_mem _ hy), ?_⟩
      · rcases g2 y hy with h | ⟨h, h'⟩
        · exact .inl h
        · exact .inr ⟨List.mem_cons_of_mem _ h, fun hh => ((hmem y).1 hh).elim (hnx y h) h'⟩
      · rw [g3, hmem, List.mem_cons]
        constructor
        · rintro ((h | h) | h)
          · exact .inr (.inl h)
          · exact .inl h
          · exact .inr (.inr h)
        · rintro (h | h | h)
          · exact .inl (.inr h)
          · exact .inl (.inl h)
          · exact .inr h
      · simp only [List.length_append, List.length_cons] at g5 ⊢
        omega
    · have hox := (hb x (List.mem_cons_self ..)).resolve_right hpx
      obtain ⟨done', r1', pd', env2, H2, m2, S2, hX2, g1, g2, g3, g4, g5⟩ := St.flushes hc ok r1b (r1a ++ [x]) (by simpa using S) (fun y hy => by
        rcases List.mem_append.1 hy with h | h
        · exact ha y h
        · simp at h; subst h; exact hox) fun y hy => hb y (List.mem_cons_of_mem _ hy)
      refine ⟨done', r1', pd', env2, H2, m2, S2, hX2, g1, fun y hy => ?_, g3, g4, by simpa using g5⟩
      rcases g2 y hy with h | ⟨h, h'⟩
      · rcases List.mem_append.1 h with h | h
        · exact .inl h
        · simp at h; subst h; exact .inr ⟨List.mem_cons_self .., hpx⟩
      · exact .inr ⟨List.mem_cons_of_mem _ h, h'⟩

/-- All that is left is pending: the end. -/
theorem St.fin (hc : CLe call call) (ok : DrawOk L ds an order) (S : St B call L an W0 K done rem pd env H m a w) (hall : ∀ x ∈ rem, x ∈ pd.map Prod.fst) {next : Act → World → Prop} (hn : StepNext W0 m H K next) : next a w := by
  obtain ⟨done', r1', pd', env', H', m', S', hX, g1, g2, g3, g4, g5⟩ := St.flushes hc ok (r2 := []) rem [] (by simpa using S) (by simp) fun x hx => .inr (hall x hx)
  have : r1' = [] := List.eq_nil_iff_forall_not_mem.2 fun x hx => by
    rcases g2 x hx with h | ⟨h, h'⟩
    · cases h
    · exact h' (hall x h)
  subst this
  have : pd' = [] := List.eq_nil_iff_forall_not_mem.2 fun ip hip => by
    have := (S'.pend ip hip).mem
    simp at this
  subst this
  exact hn _ _ _ _ _ S'.run S'.er S'.defers hX S'.rel.nil

/-- What is listed. -/
structure LInv (ops : Array Oper) (listed : Array Bool) (done : List Nat) (pd : List (Nat × Plc)) : Prop where
  size : listed.size = ops.size
  mem : ∀ i, listed.getD i false = true ↔ i ∈ done ∨ i ∈ pd.map Prod.fst

theorem LInv.set {ops : Array Oper} {listed : Array Bool} {pd' : List (Nat × Plc)} {done' : List Nat} (v : LInv ops listed done pd) {i : Nat} (hi : i < ops.size) (h : ∀ x, x ∈ done' ∨ x ∈ pd'.map Prod.fst ↔ x = i ∨ x ∈ done ∨ x ∈ pd.map Prod.fst) : LInv ops (listed.setIfInBounds i true) done' pd' := by
  refine ⟨by simp [v.size], fun j => ?_⟩
  rw [h]
  by_cases hij : i = j
  · subst hij
    have hls : i < listed.size := by rw [v.size]; exact hi
    simp [hls]
  · rw [getD_set_ne false hij, v.mem]
    simp [Ne.symm hij]

theorem befOf_mem {o : Oper} {d : Nat} : d ∈ befOf o ↔ ∃ e ∈ o.after, Region.binds .any e = true ∧ e.on = d := by
  simp [befOf, and_assoc]

theorem any_ok (hB : BaseOk B W0) (hcall : CallAll P B call) (hc : CLe call call) {ops : Array Oper} (ok : DrawOk (ops.toList.map (compStep P ops)) (ops.toList.map befOf) an order) {Q : Exit → Act → World → Prop} :
    ∀ (fuel : Nat) (listed : Array Bool) (done rem : List Nat) (pd : List (Nat × Plc)) (env : Env) (H : Heap) (m : Plcs) (a : Act) (w : World) (K : Env → Heap → Prop),
      rem.length ≤ fuel + pd.length → LInv ops listed done pd → St B call (ops.toList.map (compStep P ops)) an W0 K done rem pd env H m a w → StepNext W0 m H K (Q .normal) → wpAny P .any ops Q fuel listed a w := by
  have hlen : (ops.toList.map (compStep P ops)).length = ops.size := by simp
  have hds : ∀ (i : Nat) (o : Oper), ops[i]? = some o → (ops.toList.map befOf).getD i [] = befOf o := fun i o ho => by
    simp [List.getD, ho]
  -- what is ready, and what is not
  have hready : ∀ {listed : Array Bool} {done rem : List Nat} {pd : List (Nat × Plc)} {env : Env} {H : Heap} {m : Plcs} {a : Act} {w : World} {K : Env → Heap → Prop},
      LInv ops listed done pd → St B call (ops.toList.map (compStep P ops)) an W0 K done rem pd env H m a w → Region.ready .any ops listed = [] → ∀ x ∈ rem, x ∈ pd.map Prod.fst := by
    intro listed done rem pd env H m a w K v S hr
    have key : ∀ (r1 r2 : List Nat), rem = r1 ++ r2 → (∀ x ∈ r1, x ∈ pd.map Prod.fst) → ∀ x ∈ r2, x ∈ pd.map Prod.fst := by
      intro r1 r2
      induction r2 generalizing r1 with
      | nil => intro _ _ x hx; cases hx
      | cons y r2 ih =>
        intro he h1
        have hy : y ∈ pd.map Prod.fst := by
          by_cases hyp : y ∈ pd.map Prod.fst
          · exact hyp
          · exfalso
            subst he
            have hyl := S.rlt y (by simp)
            have hy0 : y < ops.size := by omega
            have hp := List.pairwise_append.1 S.pair
            have hlisted : listed.getD y true = false := by
              have h0 : ¬ listed.getD y false = true := fun hh => by
                rcases (v.mem y).1 hh with h | h
                · exact S.apart y h (by simp)
                · exact hyp h
              have hls : y < listed.size := by rw [v.size]; exact hy0
              simp [hls] at h0 ⊢
              exact h0
            have : y ∈ Region.ready .any ops listed := by
              refine mem_ready.2 ⟨hlisted, ops[y], by simp [hy0], fun e he hb => ?_⟩
              have hd := ok.dep y hyl e.on (by rw [hds y ops[y] (by simp [hy0])]; exact befOf_mem.2 ⟨e, he, hb, rfl⟩)
              rw [v.mem]
              rcases S.cover e.on hd.2 with h | h
              · exact .inl h
              · rcases List.mem_append.1 h with h | h
                · exact .inr (h1 _ h)
                · rcases List.mem_cons.1 h with h | h
                  · exact absurd (h ▸ hd.1) (ok.irr y hyl)
                  · exact absurd hd.1 ((List.pairwise_cons.1 hp.2.1).1 _ h).2.1
            rw [hr] at this
            exact List.not_mem_nil this
        intro x hx
        rcases List.mem_cons.1 hx with rfl | hx
        · exact hy
        · refine ih (r1 ++ [y]) (by simp [he]) (fun z hz => ?_) x hx
          rcases List.mem_append.1 hz with h | h
          · exact h1 z h
          · simp at h; subst h; exact hy
    exact key [] rem rfl (by simp)
  intro fuel
  induction fuel with
  | zero =>
    intro listed done rem pd env H m a w K hf v S hn
    have hall : ∀ x ∈ rem, x ∈ pd.map Prod.fst := fun x hx => by
      by_cases hxp : x ∈ pd.map Prod.fst
      · exact hxp
      · exfalso
        have hnd : (x :: pd.map Prod.fst).Nodup := List.nodup_cons.2 ⟨hxp, S.pdn⟩
        have := hnd.length_le_of_subset (l₂ := rem) fun y hy => by
          rcases List.mem_cons.1 hy with rfl | hy
          · exact hx
          · obtain ⟨ip, h1, rfl⟩ := List.mem_map.1 hy; exact (S.pend ip h1).mem
        simp at this
        omega
    refine ⟨List.eq_nil_iff_forall_not_mem.2 fun j hj => ?_, S.fin hc ok hall hn⟩
    obtain ⟨h0, o, ho, _⟩ := mem_ready.1 hj
    have hjl := (Array.getElem?_eq_some_iff.1 ho).1
    have hls : j < listed.size := by rw [v.size]; exact hjl
    have : listed.getD j false = true := (v.mem j).2 (by
      rcases S.cover j (by omega) with h | h
      · exact .inl h
      · exact .inr (hall j h))
    simp [hls] at h0 this
    rw [h0] at this; cases this
  | succ fuel ih =>
    intro listed done rem pd env H m a w K hf v S hn
    refine ⟨fun hr => S.fin hc ok (hready v S hr) hn, fun i hi => ?_⟩
    obtain ⟨h0, o, ho, hall⟩ := mem_ready.1 hi
    have hlt : i < ops.size := (Array.getElem?_eq_some_iff.1 ho).1
    have hil : i < (ops.toList.map (compStep P ops)).length := by omega
    have hnl : ¬ (i ∈ done ∨ i ∈ pd.map Prod.fst) := fun hh => by
      have h1 := (v.mem i).2 hh
      have hls : i < listed.size := by rw [v.size]; exact hlt
      simp [hls] at h0 h1
      rw [h0] at h1; cases h1
    have hrem := (S.cover i hil).resolve_left fun h => hnl (.inl h)
    have hnp : i ∉ pd.map Prod.fst := fun h => hnl (.inr h)
    have hanc : ∀ x ∈ an i, x ∈ done ∨ x ∈ pd.map Prod.fst := fun x hx => by
      rcases ok.anc i hil x hx with hd | ⟨d, hd, hx⟩
      · rw [hds i o ho] at hd
        obtain ⟨e, he, hb, rfl⟩ := befOf_mem.1 hd
        exact (v.mem _).1 (hall e he hb)
      · rw [hds i o ho] at hd
        obtain ⟨e, he, hb, rfl⟩ := befOf_mem.1 hd
        rcases (v.mem _).1 (hall e he hb) with h | h
        · exact .inl (S.closed _ h x hx)
        · obtain ⟨ip, h1, h2⟩ := List.mem_map.1 h
          exact .inl ((S.pend ip h1).anc x (h2 ▸ hx))
    obtain ⟨r1, r2, rfl⟩ := List.append_of_mem hrem
    have fin : (if Region.wanted o (yielded ops a.tmps) then o.wp P a w (wpAny P .any ops Q fuel (listed.setIfInBounds i true)) Q else wpAny P .any ops Q fuel (listed.setIfInBounds i true) (a.put o.dst undef) w) → wpOp P ops Q i (wpAny P .any ops Q fuel (listed.setIfInBounds i true)) a w := fun this => by
      unfold wpOp
      simp only [ho]
      split
      · rename_i hw
        rw [if_pos hw] at this
        exact .inl this
      · rename_i hw
        rw [if_neg hw] at this
        exact this
    refine fin ?_
    by_cases hnew : drawNew (ops.toList.map (compStep P ops)) an i = true
    · have hai : ∀ x ∈ an i, x ∈ done := fun x hx => (hanc x hx).resolve_right fun h => by
        obtain ⟨ip, h1, rfl⟩ := List.mem_map.1 h
        have := (new_ins hnew).2.2 _ hx
        rw [new_notObs (S.pend ip h1).isNew] at this
        cases this
      refine S.early hB hcall hc ok ho hnew hai hnp fun m' q a' w' S' hX => ?_
      refine ih _ done _ ((i, q) :: pd) env H m' a' w' K (by simp at hf ⊢; omega) (v.set hlt fun x => ?_) S' fun env2 H2 m2 a2 w2 hk hE hd hX2 hR => hn _ _ _ _ _ hk hE hd (hX.trans hX2) hR
      simp only [List.map_cons, List.mem_cons]
      constructor
      · rintro (h | h | h)
        · exact .inr (.inl h)
        · exact .inl h
        · exact .inr (.inr h)
      · rintro (h | h | h)
        · exact .inr (.inl h)
        · exact .inl h
        · exact .inr (.inr h)
    · have hp := List.pairwise_append.1 S.pair
      obtain ⟨done', r1', pd', env', H', m', S', hX, g1, g2, g3, g4, g5⟩ := St.flushes hc ok (r2 := i :: r2) r1 [] (by simpa using S) (by simp) fun x hx => by
        rcases (hp.2.2 x hx i (List.mem_cons_self ..)).2.2 with h | h | h
        · rcases hanc x h with h | h
          · exact absurd (List.mem_append_left _ hx) (S.apart x h)
          · exact .inr h
        · exact .inl h
        · exact absurd h hnew
      have hp' := List.pairwise_append.1 S'.pair
      have hai : ∀ x ∈ an i, x ∈ done' := fun x hx => ((g3 x).2 (hanc x hx)).resolve_right fun h => by
        obtain ⟨ip, h1, rfl⟩ := List.mem_map.1 h
        have P' := S'.pend ip h1
        rcases List.mem_append.1 P'.mem with h | h
        · have := g1 _ h
          rw [new_notObs P'.isNew] at this; cases this
        · rcases List.mem_cons.1 h with h | h
          · exact ok.irr i hil (h ▸ hx)
          · exact ((List.pairwise_cons.1 hp'.2.1).1 _ h).2.1 hx
      have hnp' : i ∉ pd'.map Prod.fst := fun h => hnl ((g3 i).1 (.inr h))
      refine S'.step hB hcall hc ok ho g1 hai hnp' fun env2 H2 m2 a2 w2 S2 hX2 _ => ?_
      refine ih _ (i :: done') (r1' ++ r2) pd' env2 H2 m2 a2 w2 K (by simp at hf g5 ⊢; omega) (v.set hlt fun x => ?_) S2 fun env3 H3 m3 a3 w3 hk hE hd hX3 hR => hn _ _ _ _ _ hk hE hd ((hX.trans hX2).trans hX3) hR
      rw [List.mem_cons, or_assoc, g3]

theorem Rel.draw {m : Plcs} {H : Heap} {w : World} (R : Rel W0 m H w) : Rel W0 m H { w with drawn := w.drawn + 1 } := ⟨R.below.drew, fun k o h => (by have := R.objs k o h; cases o <;> exact this), R.inj⟩

theorem RetOk.mono {m : Plcs} {H : Heap} {Q Q' : AV → Heap → Prop} {e : Ending} {w : World} (h : RetOk W0 m H Q e w) (hq : ∀ v h, Q v h → Q' v h) : RetOk W0 m H Q' e w := by
  obtain ⟨v, H', m', x, h1, h2⟩ := h
  exact ⟨v, H', m', x, hq _ _ h1, h2⟩

/-- A region that draws its order. -/
theorem draw_ok (hB : BaseOk B W0) (hcall : CallAll P B call) (hc : CLe call call) {ops : Array Oper} {id : Nat} {l : List (AStep × List AStep)}
    (hm : P.follows .mixedOrders = true) (hl : drawRows (ops.toList.map (compStep P ops)) (ops.toList.map befOf) = some l) {Q : Exit → Act → World → Prop} {env : Env} {H : Heap} {m : Plcs} {a : Act} {w : World} {K : Env → Heap → Prop}
    (E : EnvR H.length m env a) (hdef : a.defers = []) (R : Rel W0 m H { w with drawn := w.drawn + 1 }) (h : drawK B call l env H K) (hn : StepNext W0 m H K (Q .normal)) : (Code.region id ops true).wp P Q a w := by
  unfold drawRows at hl
  simp only at hl
  split at hl
  · rename_i hb
    cases hl
    have ok := DrawOk.of hb
    have hlen : (ops.toList.map (compStep P ops)).length = ops.size := by simp
    refine wp_region_any hm (any_ok hB hcall hc ok ops.size _ [] _ [] env H m a _ K ?_ ⟨by simp, fun i => ?_⟩ ⟨runD_of_draw hc h, E, hdef, R.relP, by simp, by simp, .nil, ok.lt, by simp, by simp, fun x hx => .inr (ok.all x hx), by simp, ok.pair⟩ hn)
    · rw [← hlen]
      have hnd : (orderOf (ops.toList.map (compStep P ops)) (ops.toList.map befOf) (ops.toList.map (compStep P ops)).length []).Nodup := ok.pair.imp fun hh => hh.1
      have := hnd.length_le_of_subset (l₂ := List.range (ops.toList.map (compStep P ops)).length) (fun i hi => List.mem_range.2 (ok.lt i hi))
      simpa using this
    · constructor
      · intro hh; rcases Nat.lt_or_ge i ops.size with h | h <;> simp [h] at hh
      · rintro (hh | hh) <;> cases hh
  · cases hl
end
end Go.Am
