/- Each translated operation does in the model what the abstract one does. -/
import Derived.Test.YtonfcbadaebjnaaAmC
namespace Go.Am
open Go Go.RowKit

section
variable {P : Program} {B : Base} {W0 : Bw} {m : Plcs} {H : Heap} {w : World} {K : AV → Heap → Prop} {env : Env} {a : Act}

theorem OpOk.val {x : Value} {v : AV} (R : Rel W0 m H w) (hk : K v H) (hv : VR H.length m v x) : OpOk P W0 m H w K (pure (.value x)) :=
  ⟨v, H, m, x, w, _, hk, rfl, .inl rfl, Ext.refl _ _, R, hv⟩

theorem map_some {α β : Type} {o : Option α} {f : α → β} {b : β} (h : o.map f = some b) : ∃ a, o = some a ∧ f a = b := by
  cases o with
  | none => cases h
  | some a => exact ⟨a, rfl, by simpa using h⟩

theorem builtin_ok (hB : BaseOk B W0) (E : EnvR H.length m env a) (R : Rel W0 m H w) {b : Builtin} {ts : Array TypeId} {xs : Array Operand} {ty : TypeId} {ao : AOp} (hc : compBuiltin P b ts.toList xs.toList = some ao) (h : aop B env H K ao) (cs : Array Bool) :
    OpOk P W0 m H w K (builtin b ts ty cs (xs.map a.eval)) := by
  have two : ∀ {p q : TypeId}, ts.toList = [p, q] → ts = #[p, q] := fun h => Array.toList_inj.1 (by simpa using h)
  have twox : ∀ {p q : Operand}, xs.toList = [p, q] → xs.map a.eval = #[a.eval p, a.eval q] := fun h => by
    have : xs = #[_, _] := Array.toList_inj.1 (by simpa using h)
    rw [this]; simp
  have one : ∀ {p : TypeId}, ts.toList = [p] → ts = #[p] := fun h => Array.toList_inj.1 (by simpa using h)
  have onex : ∀ {p : Operand}, xs.toList = [p] → xs.map a.eval = #[a.eval p] := fun h => by
    have : xs = #[_] := Array.toList_inj.1 (by simpa using h)
    rw [this]; simp
  have hd1 : ∀ {p : TypeId} {l : List TypeId}, ts.toList = p :: l → ts[0]? = some p := fun h => by rw [← Array.getElem?_toList, h]; rfl
  have hd2 : ∀ {p : Operand} {l : List Operand}, xs.toList = p :: l → (xs.map a.eval)[0]? = some (a.eval p) := fun h => by
    rw [Array.getElem?_map, ← Array.getElem?_toList, h]; rfl
  unfold compBuiltin at hc
  split at hc
  · rename_i t tl x xl ht hx
    split at hc
    · rename_i hu
      obtain ⟨x', hx', rfl⟩ := map_some hc
      exact (ok_lenS E R hu hx' h (hd1 ht) (hd2 hx)).op
    · rename_i e hu
      obtain ⟨x', hx', rfl⟩ := map_some hc
      exact (ok_lenL E R hu hx' h (hd1 ht) (hd2 hx)).op
    · rename_i n e hu
      cases hc
      exact (ok_lenA R hu h (hd1 ht) (hd2 hx)).op
    · rename_i kt vt hu
      obtain ⟨x', hx', rfl⟩ := map_some hc
      exact (ok_lenM E R hu hx' h (hd1 ht) (hd2 hx)).op
    · cases hc
  · rename_i t u s x ht hx
    split at hc
    · rename_i e s' x' he hs hx'
      split at hc
      · rename_i es bytes z e2 hi hz hu
        split at hc
        · rename_i hcond
          cases hc
          rw [two ht, twox hx]
          exact (ok_append hB E R he hi hz hu hcond.1 hcond.2.1 hcond.2.2 hs hx' h).op
        · cases hc
      · rename_i es bytes z hi hz hu
        split at hc
        · rename_i hcond
          cases hc
          obtain ⟨rfl, rfl, hzs⟩ := hcond
          rw [two ht, twox hx]
          exact (ok_appendS hB E R he hi hz hu hzs hs hx' h).op
        · cases hc
      · cases hc
    · cases hc
  · rename_i t u d s ht hx
    split at hc
    · rename_i e d' s' he hd hs
      split at hc
      · rename_i es b hi
        cases hc
        rw [two ht, twox hx]
        exact (ok_copyL hB E R he hi hd hs h).op
      · cases hc
    · cases hc
  · rename_i t tl ht
    have hmap : (xs.map a.eval).toList = xs.toList.map a.eval := by simp
    split at hc
    · rename_i k l hu hl
      cases hc
      simp only [aop] at h
      obtain ⟨ns, hq, hns⟩ := ints_ok E hl h
      cases ns with
      | nil => exact hq.elim
      | cons n ns =>
        refine VOk.op (VOk.int R hq ?_)
        simp only [Builtin.min_, hmap, hns, List.map_cons]
        exact run_minI k ns n
    · rename_i l hu hl
      cases hc
      simp only [aop] at h
      obtain ⟨ns, hq, hns⟩ := strs_ok E hl h
      cases ns with
      | nil => exact hq.elim
      | cons n ns =>
        refine VOk.op (VOk.str R hq ?_)
        simp only [Builtin.min_, hmap, hns, List.map_cons]
        exact run_minS ns n
    · cases hc
  · rename_i t tl ht
    have hmap : (xs.map a.eval).toList = xs.toList.map a.eval := by simp
    split at hc
    · rename_i k l hu hl
      cases hc
      simp only [aop] at h
      obtain ⟨ns, hq, hns⟩ := ints_ok E hl h
      cases ns with
      | nil => exact hq.elim
      | cons n ns =>
        refine VOk.op (VOk.int R hq ?_)
        simp only [Builtin.max_, hmap, hns, List.map_cons]
        exact run_maxI k ns n
    · rename_i l hu hl
      cases hc
      simp only [aop] at h
      obtain ⟨ns, hq, hns⟩ := strs_ok E hl h
      cases ns with
      | nil => exact hq.elim
      | cons n ns =>
        refine VOk.op (VOk.str R hq ?_)
        simp only [Builtin.max_, hmap, hns, List.map_cons]
        exact run_maxS ns n
    · cases hc
  · rename_i t u x y ht hx
    split at hc
    · rename_i kt vt x' y' hu hx' hy'
      rw [two ht, twox hx]
      split at hc
      · rename_i i hk
        cases hc
        obtain ⟨D, hD, hkd⟩ : ∃ D, P.underlying kt = some D ∧ keyDesc (.int i) D = true := by
          unfold tyOf at hk; split at hk <;> first | (cases hk; exact ⟨_, by assumption, rfl⟩) | cases hk
        exact (ok_mapDel E R hu hD hkd hx' hy' h).op
      · rename_i hk
        cases hc
        obtain ⟨D, hD, hkd⟩ : ∃ D, P.underlying kt = some D ∧ keyDesc .bool D = true := by
          unfold tyOf at hk; split at hk <;> first | (cases hk; exact ⟨_, by assumption, rfl⟩) | cases hk
        exact (ok_mapDel E R hu hD hkd hx' hy' h).op
      · rename_i hk
        cases hc
        obtain ⟨D, hD, hkd⟩ : ∃ D, P.underlying kt = some D ∧ keyDesc .str D = true := by
          unfold tyOf at hk; split at hk <;> first | (cases hk; exact ⟨_, by assumption, rfl⟩) | cases hk
        exact (ok_mapDel E R hu hD hkd hx' hy' h).op
      · cases hc
    · cases hc
  · rename_i t x ht hx
    split at hc
    · rename_i e x' he hx'
      split at hc
      · rename_i es b z hi hz
        split at hc
        · rename_i hzl
          cases hc
          rw [one ht, onex hx]
          exact (ok_clearL E R he hi hz hzl hx' h).op
        · cases hc
      · cases hc
    · cases hc
  · cases hc

theorem bin_ok (E : EnvR H.length m env a) (R : Rel W0 m H w) {op : BinOp} {t yt : TypeId} {x y : Operand} {ao : AOp} (hc : compBin P op t x y yt = some ao) (h : aop B env H K ao) :
    VOk P W0 m H w K (do eqGuard op t x y (a.eval x) (a.eval y); binOp op t (a.eval x) (a.eval y)) := by
  have nil_ok : ∀ (ng : Bool) (D : TypeDesc) (x' y' : Opd), opd x = some x' → opd y = some y' → P.underlying t = some D → compNil P ng D x y x' y' = some ao →
      VOk P W0 m H w K (do eqGuard (if ng then .neq else .eql) t x y (a.eval x) (a.eval y); binOp (if ng then .neq else .eql) t (a.eval x) (a.eval y)) := fun ng D x' y' hx hy hu hn => by
    unfold compNil at hn
    split at hn
    · cases hn
    · rename_i k hk
      split at hn
      · rename_i hq
        cases hn
        exact ok_isNil E R hu hk hx (.inl ⟨rfl, isNilConst_eq hq⟩) h
      · split at hn
        · rename_i hq
          cases hn
          exact ok_isNil E R hu hk hy (.inr ⟨rfl, isNilConst_eq hq⟩) h
        · split at hn
          · rename_i e
            split at hn
            · rename_i n b hi
              split at hn
              · cases hn
              · rename_i hne
                cases hn
                exact ok_peq E R hu hi hne hx hy h
            · cases hn
          · cases hn
  have agg_ok : ∀ (ng : Bool) (x' y' : Opd), opd x = some x' → opd y = some y' → tyOf P t = some .agg → compAgg P ng t x' y' = some ao →
      VOk P W0 m H w K (do eqGuard (if ng then .neq else .eql) t x y (a.eval x) (a.eval y); binOp (if ng then .neq else .eql) t (a.eval x) (a.eval y)) := fun ng x' y' hx hy hty hn => by
    unfold compAgg at hn
    split at hn
    · cases hn
    · rename_i hg
      split at hn
      · rename_i l n b hl hi
        cases hn
        exact ok_aeq E R (by simpa using hg) hl hi hty hx hy h
      · cases hn
  have hag : ∀ {fs}, P.underlying t = some (.struct fs) → tyOf P t = some .agg := fun h => by unfold tyOf; rw [h]
  have haa : ∀ {n e}, P.underlying t = some (.array n e) → tyOf P t = some .agg := fun h => by unfold tyOf; rw [h]
  unfold compBin at hc
  split at hc
  · rename_i x' y' hx hy
    split at hc
    · cases hc; exact ok_shf E R hx hy (.inl rfl) h
    · cases hc; exact ok_shf E R hx hy (.inr rfl) h
    · rename_i k h1 h2 hu
      cases hc
      exact ok_ibin E R hx hy (fun e => h1 e) (fun e => h2 e) h
    · cases hc; exact ok_sbin E R hx hy h
    · rename_i hu; cases hc; exact ok_beq (ng := false) E R hu hx hy h
    · rename_i hu; cases hc; exact ok_beq (ng := true) E R hu hx hy h
    · rename_i hu; exact agg_ok false x' y' hx hy (hag hu) hc
    · rename_i hu; exact agg_ok false x' y' hx hy (haa hu) hc
    · rename_i hu; exact agg_ok true x' y' hx hy (hag hu) hc
    · rename_i hu; exact agg_ok true x' y' hx hy (haa hu) hc
    · rename_i hu; exact nil_ok false _ x' y' hx hy hu hc
    · rename_i hu; exact nil_ok true _ x' y' hx hy hu hc
    · cases hc
  · cases hc

theorem keyDesc_of {kt : TypeId} {T : Ty} (hT : T ≠ .other) (hk : tyOf P kt = some (.one T)) : ∃ D, P.underlying kt = some D ∧ keyDesc T D = true := by
  unfold tyOf at hk
  split at hk <;> first | (cases hk; exact ⟨_, by assumption, rfl⟩) | (cases hk; exact absurd rfl hT) | cases hk

theorem aop_ok (hB : BaseOk B W0) (E : EnvR H.length m env a) (R : Rel W0 m H w) {o : Oper} {ao : AOp} (hc : compOp P o = some (.op ao)) (h : aop B env H K ao) : OpOk P W0 m H w K (execOp a.eval o) := by
  obtain ⟨dst, op, ty, pos, after, guard⟩ := o
  have emap : ∀ {α : Type} {q : Option α} {f : α → AOp}, q.map (fun x => AIns.op (f x)) = some (AIns.op ao) → ∃ x, q = some x ∧ f x = ao := fun {α} {q} {f} h => by
    obtain ⟨x, h1, h2⟩ := map_some h
    exact ⟨x, h1, by injection h2⟩
  cases op with
  | move x =>
    simp only [compOp] at hc
    obtain ⟨x', hx, rfl⟩ := emap hc
    obtain ⟨v, hk, hv⟩ := opd_ok E hx h
    exact OpOk.val R hk hv
  | assign x =>
    simp only [compOp] at hc
    obtain ⟨x', hx, rfl⟩ := emap hc
    obtain ⟨v, hk, hv⟩ := opd_ok E hx h
    exact OpOk.val R hk hv
  | pick c x y =>
    simp only [compOp] at hc
    split at hc
    · rename_i c' x' y' h1 h2 h3
      cases hc
      simp only [aop] at h
      obtain ⟨v, ha, hv⟩ := opd_ok E h1 h
      obtain ⟨b, rfl, hb⟩ := pBool_iff.1 ha
      simp only [VR] at hv
      cases b with
      | true =>
        simp only [if_true] at hb
        obtain ⟨u, hk, hu⟩ := opd_ok E h2 hb
        exact ⟨u, H, m, _, w, _, hk, by simp [execOp, hv, asBool], .inl rfl, Ext.refl _ _, R, hu⟩
      | false =>
        simp only [Bool.false_eq_true, if_false] at hb
        obtain ⟨u, hk, hu⟩ := opd_ok E h3 hb
        exact ⟨u, H, m, _, w, _, hk, by simp [execOp, hv, asBool], .inl rfl, Ext.refl _ _, R, hu⟩
    · cases hc
  | box t x =>
    simp only [compOp] at hc
    split at hc
    · rename_i n b x' hi hx
      cases hc
      obtain ⟨v, ha, hv⟩ := opd_ok E hx h
      exact (ok_box R hi hv ha).op
    · cases hc
  | alloc t =>
    simp only [compOp] at hc
    obtain ⟨z, hz, rfl⟩ := emap hc
    exact (ok_alloc R hz h).op
  | build t ps =>
    simp only [compOp] at hc
    split at hc
    · rename_i fs z hu hz
      split at hc
      · rename_i hall
        obtain ⟨l, hl, rfl⟩ := emap hc
        exact (ok_build E R hz (.inl ⟨fs, hu, hall, hl⟩) h).op
      · cases hc
    · rename_i n e z hu hz
      split at hc
      · rename_i k b hi
        obtain ⟨l, hl, rfl⟩ := emap hc
        exact (ok_build E R hz (.inr ⟨n, e, k, b, hu, hi, hl⟩) h).op
      · cases hc
    · cases hc
  | buildSlice t len ps =>
    simp only [compOp] at hc
    split at hc
    · rename_i e he
      split at hc
      · rename_i es b z hi hz
        split at hc
        · rename_i hcond
          obtain ⟨l, hl, rfl⟩ := emap hc
          exact (ok_buildSlice E R he hi hz hcond.1 hcond.2.1 hcond.2.2 hl h).op
        · cases hc
      · cases hc
    · cases hc
  | load t x =>
    simp only [compOp] at hc
    split at hc
    · rename_i x' ht hx
      obtain ⟨n, hn, rfl⟩ := emap hc
      obtain ⟨v, ha, hv⟩ := opd_ok E hx h
      exact (ok_ldA hB R ht hn hv ha).op
    · rename_i y x' ht hx
      cases hc
      obtain ⟨v, ha, hv⟩ := opd_ok E hx h
      exact (ok_ld hB R ht hv ha).op
    · cases hc
  | store t x y =>
    simp only [compOp] at hc
    split at hc
    · rename_i n b x' y' hi hx hy
      cases hc
      simp only [aop] at h
      obtain ⟨v, ha, hv⟩ := opd_ok E hx h
      obtain ⟨u, hb, hu⟩ := opd_ok E hy ha
      exact (ok_st R hi hv hu hb).op
    · cases hc
  | nilCheck x =>
    simp only [compOp] at hc
    obtain ⟨x', hx, rfl⟩ := emap hc
    simp only [aop] at h
    obtain ⟨v, ha, hv⟩ := opd_ok E hx h
    simp only [execOp]
    split at ha
    · obtain ⟨_, hv'⟩ := VR_ptr hv
      rw [hv']
      exact OpOk.val R ha (hv' ▸ hv)
    · have hv' := hv
      simp only [VR] at hv
      obtain ⟨y, e, _⟩ := hv
      rw [e]
      exact OpOk.val R ha (e ▸ hv')
    · have hv' := hv
      simp only [VR] at hv
      obtain ⟨y, z, e, _⟩ := hv
      rw [e]
      exact OpOk.val R ha (e ▸ hv')
    · exact ha.elim
  | binOp op t x y yt =>
    simp only [compOp] at hc
    obtain ⟨q, hq, e⟩ := map_some hc
    injection e with e; subst e
    exact (bin_ok E R hq h).op
  | unOp op t x =>
    simp only [compOp] at hc
    split at hc
    · rename_i k x' hx; cases hc; exact (ok_neg E R hx h).op
    · rename_i k x' hx; cases hc; exact (ok_compl E R hx h).op
    · rename_i x' hx; cases hc; exact (ok_not E R hx h).op
    · cases hc
  | convert s t x =>
    simp only [compOp] at hc
    obtain ⟨q, hq, e⟩ := map_some hc
    injection e with e; subst e
    unfold compConv at hq
    split at hq
    · cases hq
    · rename_i x' hx
      split at hq
      · rename_i k k2 h1 h2; cases hq; exact (ok_convI E R h1 h2 hx h).op
      · rename_i h1 h2; cases hq; exact (ok_convS E R h1 h2 hx h).op
      · rename_i e h1 h2
        split at hq
        · rename_i h3; cases hq; exact (ok_toBytes E R h1 h2 h3 hx h).op
        · cases hq
      · rename_i e h1 h2
        split at hq
        · rename_i h3; cases hq; exact (ok_toStr hB E R h1 h2 h3 hx h).op
        · cases hq
      · rename_i e0 e h1 h2
        split at hq
        · rename_i hst
          split at hq
          · rename_i h3; cases hq; exact (ok_convL E R hst h1 h2 h3 hx h).op
          · cases hq
        · cases hq
      · cases hq
  | makeInterface t x =>
    simp only [compOp] at hc
    split at hc
    · cases hc
    · rename_i D x' hne hu hx
      cases hc
      exact (ok_makeIface E R hu (fun ms e => by subst e; exact hne _ rfl) hx h).op
    · cases hc
  | makeFunc fn fs cs =>
    simp only [compOp] at hc
    split at hc
    · rename_i p q hf hcs
      cases hc
      exact (ok_makeFunc E R hf hcs h).op
    · cases hc
  | makeMap t r =>
    cases r with
    | some r => simp [compOp] at hc
    | none =>
      simp only [compOp] at hc
      cases hc
      exact (ok_makeMap R h).op
  | makeSlice t l c =>
    simp only [compOp] at hc
    split at hc
    · rename_i e he
      split at hc
      · rename_i es b z l' c' hi hz hl hcc
        split at hc
        · rename_i hcond
          cases hc
          exact (ok_makeSlice E R he hi hz hcond.1 hcond.2 hl hcc h).op
        · cases hc
      · cases hc
    · cases hc
  | slice t x lo hi mx =>
    simp only [compOp] at hc
    split at hc
    · rename_i x' lo' hi' mx' hx hlo hhi hmx
      have hmn : ∀ {p : Option Operand} {q : Option Opd}, optIdx p = some q → q = none → p = none := fun {p} {q} hp hq => by
        subst hq
        cases p with
        | none => rfl
        | some y =>
          simp only [optIdx] at hp
          split at hp <;> cases hp
      split at hc
      · rename_i hu
        split at hc
        · cases hc
        · rename_i hm
          cases hc
          have := hmn hmx (by simpa using hm)
          subst this
          exact (ok_sliceS E R hu hx hlo hhi h).op
      · rename_i e hu
        split at hc
        · cases hc
        · rename_i hm
          obtain ⟨n, hn, rfl⟩ := emap hc
          simp only [aop] at h
          cases mx' with
          | none =>
            have := hmn hmx rfl
            subst this
            exact (ok_sliceL2 E R hu hn hx hlo hhi h).op
          | some mo =>
            cases hi' with
            | none => simp at hm
            | some ho =>
              cases mx with
              | none => simp [optIdx] at hmx
              | some mx0 =>
                cases hi with
                | none => simp [optIdx] at hhi
                | some hi0 =>
                  have h1 : opd mx0 = some mo := by
                    simp only [optIdx] at hmx; split at hmx
                    · rename_i q hq; cases hmx; exact hq
                    · cases hmx
                  have h2 : opd hi0 = some ho := by
                    simp only [optIdx] at hhi; split at hhi
                    · rename_i q hq; cases hhi; exact hq
                    · cases hhi
                  exact (ok_sliceL3 E R hu hn hx hlo h2 h1 h).op
      · rename_i n e hu
        split at hc
        · cases hc
        · rename_i hm
          obtain ⟨i, hn, rfl⟩ := emap hc
          have := hmn hmx (by simpa using hm)
          subst this
          exact (ok_sliceA E R (.inl hu) hn hx hlo hhi h).op
      · rename_i p hu
        split at hc
        · rename_i n e hp
          split at hc
          · cases hc
          · rename_i hm
            obtain ⟨i, hn, rfl⟩ := emap hc
            have := hmn hmx (by simpa using hm)
            subst this
            exact (ok_sliceA E R (.inr ⟨p, hu, hp⟩) hn hx hlo hhi h).op
        · cases hc
      · cases hc
    · cases hc
  | fieldAddr t x i =>
    simp only [compOp] at hc
    split at hc
    · rename_i fs x' hu hx
      split at hc
      · rename_i f hf
        split at hc
        · rename_i n b hi
          split at hc
          · cases hc
          · rename_i hn
            cases hc
            exact (ok_fieldPtr E R hu hf hi hn hx h).op
        · cases hc
      · cases hc
    · cases hc
  | field t x i =>
    simp only [compOp] at hc
    split at hc
    · rename_i fs x' hu hx
      split at hc
      · rename_i f hf
        split at hc
        · rename_i n b ht hi
          cases hc
          exact (ok_field E R hu hf hi (ty := none) hx h ht).op
        · rename_i y n b ht hi
          cases hc
          exact (ok_field E R hu hf hi (ty := some y) hx h ht).op
        · cases hc
      · cases hc
    · cases hc
  | indexAddr t x i =>
    simp only [compOp] at hc
    split at hc
    · rename_i x' i' hx hi
      split at hc
      · rename_i e hu
        obtain ⟨n, hn, rfl⟩ := emap hc
        exact (ok_indexPtr E R hu hn hx hi h).op
      · rename_i n e hu
        obtain ⟨k, hn, rfl⟩ := emap hc
        exact (ok_indexPtrA E R hu hn hx hi h).op
      · cases hc
    · cases hc
  | index t x i =>
    simp only [compOp] at hc
    split at hc
    · rename_i x' i' hx hi
      split at hc
      · rename_i hu; cases hc; exact (ok_indexS E R hu hx hi h).op
      · rename_i n e hu
        split at hc
        · rename_i es b ht hn
          cases hc
          exact (ok_indexA E R hu hn (ty := none) hx hi h ht).op
        · rename_i y es b ht hn
          cases hc
          exact (ok_indexA E R hu hn (ty := some y) hx hi h ht).op
        · cases hc
      · cases hc
    · cases hc
  | lookup t x y ok =>
    simp only [compOp] at hc
    split at hc
    · rename_i kt vt x' y' hu hx hy
      split at hc
      · rename_i k v z hk hv hz; cases hc
        obtain ⟨D, hD, hkd⟩ := keyDesc_of (by simp) hk
        exact (ok_lookup E R hu hD hkd hz hx hy h).op
      · rename_i v z hk hv hz; cases hc
        obtain ⟨D, hD, hkd⟩ := keyDesc_of (by simp) hk
        exact (ok_lookup E R hu hD hkd hz hx hy h).op
      · rename_i v z hk hv hz; cases hc
        obtain ⟨D, hD, hkd⟩ := keyDesc_of (by simp) hk
        exact (ok_lookup E R hu hD hkd hz hx hy h).op
      · rename_i k z hk hv hz; cases hc
        obtain ⟨D, hD, hkd⟩ := keyDesc_of (by simp) hk
        exact (ok_lookup E R hu hD hkd hz hx hy h).op
      · rename_i z hk hv hz; cases hc
        obtain ⟨D, hD, hkd⟩ := keyDesc_of (by simp) hk
        exact (ok_lookup E R hu hD hkd hz hx hy h).op
      · rename_i v z hk hv hz
        split at hc
        · rename_i hp; cases hc
          exact (ok_lookupP E R hu hp hz hx hy h).op
        · cases hc
      · cases hc
    · cases hc
  | mapUpdate t x y v =>
    simp only [compOp] at hc
    split at hc
    · rename_i kt vt x' y' v' hu hx hy hv
      split at hc
      · rename_i k hk; cases hc
        obtain ⟨D, hD, hkd⟩ := keyDesc_of (by simp) hk
        exact (ok_mapSet E R hu hD hkd hx hy hv h).op
      · rename_i hk; cases hc
        obtain ⟨D, hD, hkd⟩ := keyDesc_of (by simp) hk
        exact (ok_mapSet E R hu hD hkd hx hy hv h).op
      · rename_i hk; cases hc
        obtain ⟨D, hD, hkd⟩ := keyDesc_of (by simp) hk
        exact (ok_mapSet E R hu hD hkd hx hy hv h).op
      · rename_i hk
        split at hc
        · rename_i hp; cases hc
          exact (ok_mapSetP E R hu hp hx hy hv h).op
        · cases hc
      · cases hc
    · cases hc
  | range t x =>
    simp only [compOp] at hc
    split at hc
    · rename_i kt vt x' hu hx
      cases hc
      exact (ok_range E R hu hx h).op
    · cases hc
  | next it s =>
    cases s with
    | true => simp [compOp] at hc
    | false =>
      simp only [compOp] at hc
      obtain ⟨x, _, e⟩ := map_some hc
      cases e
  | extract x i =>
    simp only [compOp] at hc
    split at hc
    · rename_i x' hx
      cases hc
      exact (ok_extract E R hx h).op
    · cases hc
  | typeAssert x xt t ok =>
    simp only [compOp] at hc
    split at hc
    · cases hc
    · rename_i D x' z hne hu hx hz
      cases hc
      exact (ok_assert E R hu (fun ms e => by subst e; exact hne _ rfl) hz hx h).op
    · cases hc
  | call c =>
    obtain ⟨callee, xs, ts⟩ := c
    simp only [compOp, compCall] at hc
    split at hc
    · rename_i b
      obtain ⟨q, hq, e⟩ := map_some hc
      injection e with e; subst e
      have := builtin_ok (P := P) hB E R (ty := ty) hq h (xs.map fun | .const _ => true | _ => false)
      obtain ⟨v, H', m', x, w', nx, h1, h2, h3⟩ := this
      refine ⟨v, H', m', x, w', nx, h1, ?_, h3⟩
      simp only [execOp, resolve, Sem.run_bind, Sem.run_pure, Result.andThen_ok, invoke]
      exact h2
    · split at hc
      · cases hc
      · split at hc
        · cases hc
        · obtain ⟨x, _, e⟩ := map_some hc
          cases e
    · split at hc <;> cases hc
  | _ => simp [compOp] at hc

end

end Go.Am
