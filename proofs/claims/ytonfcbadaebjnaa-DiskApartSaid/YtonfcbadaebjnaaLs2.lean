/- The disk's List, a function that is not translated: its contract at the program is the machine's. -/
import Derived.Test.YtonfcbadaebjnaaLs1
import Derived.Test.YtonfcbadaebjnaaAmW
namespace Go.Am
open Go Go.RowKit Go.Proofs Go.Maps

def aNames : AFunc := ⟨1, [(0, none)], .names⟩

section
variable {W0 : Bw} {m : Plcs} {H : Heap} {w w' : World}

/-- Another world in which all that lay still lies. -/
theorem Rel.grown (R : Rel W0 m H w) (hb : Below w.heap.size w w') : Rel W0 m H w' := by
  refine ⟨R.below.trans hb.os hb.tape hb.output hb.size fun k hk => hb.block k (R.below.lt hk), fun k o hk => ?_, R.inj⟩
  refine ObjR_mono (Nat.le_refl _) (by rcases Nat.lt_or_ge k H.length with h | h; exact h; simp [List.getElem?_eq_none h] at hk) (fun _ _ => rfl) (fun hl => hb.block _ ((R.objs k o hk).lt hl)) (R.objs k o hk)

/-- A row that has come. -/
theorem Rel.row (R : Rel W0 m H w) (hb : Below w.heap.size w w') {g : Nat} {cur : Array Value} {e : TypeId} {c : List AV} (hg : w.heap.size ≤ g) (hcell : w'.heap[g]? = some (.cells cur e (0, 0))) (hc : c.length ≤ cur.size) (h1 : Ones c)
    (hv : ∀ (j : Nat) u, c[j]? = some u → ∃ x, cur[j]? = some x ∧ VR H.length m u x) : Rel W0 (upd m H.length ⟨g, 0, cur.size⟩) (H ++ [.arr c]) w' := by
  have hE := Ext.upd m H ⟨g, 0, cur.size⟩ (.arr c)
  have hlive : ∀ {k : Nat} {o : AObj}, H[k]? = some o → o.live = true → (m k).blk < w.heap.size := fun hk ho => (R.objs _ _ hk).lt ho
  have hkept : ¬ W0.kept g := fun hk => by have := R.below.lt hk; omega
  refine ⟨R.below.trans hb.os hb.tape hb.output hb.size fun k hk => hb.block k (R.below.lt hk), fun k o hk => ?_, fun k l o o' hk hl ho ho' hne => ?_⟩
  · simp only [List.length_append, List.length_singleton]
    rw [List.getElem?_append] at hk
    split at hk
    · rename_i hlt
      exact ObjR_mono (Nat.le_succ _) hlt hE.same (fun hl => hb.block _ (hlive hk hl)) (R.objs k o hk)
    · rename_i hge
      have hk0 : k = H.length := by
        rcases Nat.eq_zero_or_pos (k - H.length) with h | h
        · omega
        · rw [List.getElem?_eq_none (by simp; omega)] at hk; cases hk
      subst hk0
      simp at hk; subst hk
      show CellsR _ _ _ _ _ _ _
      rw [CellsR, upd_same]
      refine ⟨hkept, cur, e, (0, 0), hcell, .inl rfl, by simpa using hc, Nat.le_refl _, h1, fun j u hu => ?_⟩
      obtain ⟨x, hx, hr⟩ := hv j u hu
      exact ⟨x, by simpa using hx, VR_mono (Nat.le_succ _) hE.same _ _ hr⟩
  · have one : ∀ {q : Nat} {z : AObj}, ¬ q < H.length → ([AObj.arr c] : List AObj)[q - H.length]? = some z → q = H.length := fun hn hz => by
      rcases Nat.eq_zero_or_pos (_ - H.length) with h | h
      · exact Nat.le_antisymm (Nat.le_of_sub_eq_zero h) (Nat.le_of_not_lt hn)
      · rw [List.getElem?_eq_none (by simp; omega)] at hz; cases hz
    rw [List.getElem?_append] at hk hl
    split at hk
    · split at hl
      · rw [upd_other m _ (by omega), upd_other m _ (by omega)]
        exact R.inj k l o o' hk hl ho ho' hne
      · have := one ‹_› hl
        subst this
        rw [upd_other m _ (by omega), upd_same]
        have := hlive hk ho
        show (m k).blk ≠ g
        omega
    · have := one ‹_› hk
      subst this
      split at hl
      · rw [upd_same, upd_other m _ (by omega)]
        have := hlive hl ho'
        show g ≠ (m l).blk
        omega
      · have := one ‹_› hl; omega

theorem keys_of {n : Nat} : ∀ {es : List (AV × AV × Nat)} {l : List MapEntry} {ks : List (List UInt8)}, EntR n m es l → es.map (·.1) = ks.map AV.str → l.map (·.key) = ks.map (fun s => Value.string ⟨s.toArray⟩) ∧ l.map (·.born) = es.map (·.2.2)
  | [], l, ks, h, hk => by
    simp only [EntR] at h; subst h
    have : ks = [] := by simpa using hk.symm
    subst this; exact ⟨rfl, rfl⟩
  | (k, v, b) :: r, l, ks, h, hk => by
    simp only [EntR] at h
    obtain ⟨e, l', rfl, h1, h2, h3, h4⟩ := h
    cases ks with
    | nil => simp at hk
    | cons s ks =>
      simp only [List.map_cons, List.cons.injEq] at hk
      obtain ⟨g1, g2⟩ := keys_of h4 hk.2
      rw [hk.1] at h1
      simp only [VR] at h1
      exact ⟨by simp only [List.map_cons, h1, g1], by simp only [List.map_cons, h3, g2]⟩

theorem names_own {P : Program} {ty : TypeId} {H' : Type} (ht : P.underlying ty = some .string) {es : Array MapEntry} {clock b : Nat} {ks : List (List UInt8)} (hb : w.heap[b]? = some (.map es clock)) (hk : es.toList.map (·.key) = ks.map (fun s => Value.string ⟨s.toArray⟩)) (hn : ks.Nodup)
    (hbn : ∀ x, x ∈ es.toList → x.born < clock) (hbd : (es.toList.map (·.born)).Nodup) (hl : ks.length ≤ 1000000) (hs : ∀ s, s ∈ ks → s.length ≤ 1000000) :
    ∃ D0 : DataW H', w.ownsMap P ty (fun _ => some (.nil, [])) b es.size D0 ∧ Maps.size D0 = ks.length ∧ (strKeys D0).Perm ks := by
  have hmx : maxLen = 9223372036854775807 := by decide
  have hlen : es.size = ks.length := by
    have := congrArg List.length hk
    simpa using this
  have hrd : ∀ x, x ∈ es.toList → ∃ s, s ∈ ks ∧ x.key = .string ⟨s.toArray⟩ ∧ WideElems.rd (H := H') P ty (fun _ => some (.nil, [])) x = some (.string s, .nil) := fun x hx => by
    have : x.key ∈ ks.map (fun s => Value.string ⟨s.toArray⟩) := by rw [← hk]; exact List.mem_map.2 ⟨x, hx, rfl⟩
    obtain ⟨s, hs', e⟩ := List.mem_map.1 this
    refine ⟨s, hs', e.symm, ?_⟩
    have h1 := hs s hs'
    have : keyOf P ty x.key = some (.string s) := by
      rw [← e, WideMaps.keyOf_string_mk ht (by show s.toArray.size ≤ maxLen; rw [hmx]; simp; omega)]
    simp [WideElems.rd, this]
  refine ⟨.map ((es.toList.map (WideElems.rg P ty (fun _ => some (.nil, [])))).foldr DataW.insert []), ⟨es, clock, hb, ⟨by rw [hmx]; omega, ⟨hbn, hbd, ?_⟩, fun x hx => ?_⟩, Nat.le_refl _, rfl⟩, ?_, ?_⟩
  · rw [hk]
    exact List.Pairwise.map _ (fun a b hab e => hab (by simpa using e)) hn
  · obtain ⟨s, _, _, h⟩ := hrd x hx; exact ⟨_, h⟩
  · rw [Maps.size_eq, (WideShapes.sorted_perm _).length_eq, List.length_map]
    simpa using hlen
  · refine ((WideShapes.sorted_perm _).map _).trans ?_
    rw [List.map_map]
    have e2 : es.toList.map ((fun p => strOf p.1) ∘ WideElems.rg (H := H') P ty (fun _ => some (.nil, []))) = ks := by
      have e3 : (es.toList.map ((fun p => strOf p.1) ∘ WideElems.rg (H := H') P ty (fun _ => some (.nil, [])))).map (fun s => Value.string ⟨s.toArray⟩) = ks.map (fun s => Value.string ⟨s.toArray⟩) := by
        rw [← hk, List.map_map]
        refine List.map_congr_left fun x hx => ?_
        obtain ⟨s, _, h1, h2⟩ := hrd x hx
        simp [Function.comp, WideElems.rg, h2, strOf, h1]
      exact (List.map_inj_right (fun a b e => by simpa using e)).1 e3
    rw [e2]
end

theorem ok_names : FnNat Try.prog 22 aNames := by
  refine ⟨⟨Try.f22, Try.func22, of_decide_eq_true (by kernel_rfl), by kernel_rfl⟩, fun {B W0 call loop al H Q m w args} hB h R hv => ?_⟩
  obtain ⟨d, mm, c1, c2, down, r, es, clock, e1, e0, hd, hm, hdn, hup⟩ := h
  obtain ⟨v, rfl⟩ : ∃ v, al = [v] := by
    cases al with
    | nil => cases e0
    | cons v r =>
      cases r with
      | nil => exact ⟨v, rfl⟩
      | cons u r => simp [argsEnv, ev, lenAcc, lenAcc_eq] at e1; omega
  have ev0 : v = .ptr (some (.new d, 0)) := by
    have : some v = some (AV.ptr (some (.new d, 0))) := e0
    exact Option.some.inj this
  subst ev0
  obtain ⟨x0, hx0⟩ : ∃ x0, args = #[x0] := by
    simp only [VRL] at hv
    obtain ⟨y, r, h1, _, rfl⟩ := hv
    exact ⟨y, by apply Array.toList_inj.1; simpa using h1⟩
  subst hx0
  have hp : x0 = .pointer (some ⟨(m d).blk, (m d).base, none⟩) := by
    simp only [VRL, VR] at hv
    obtain ⟨y, r, h1, ⟨_, h2⟩, _⟩ := hv
    have : x0 = y := by simpa using (List.cons.inj h1).1
    rw [this, h2]; simp [adr, Id.blk, Id.beg]
  subst hp
  obtain ⟨_, ac, ee, f, hcell, _, _, _, _, hget⟩ := R.objs d _ hd
  obtain ⟨y0, hy0, hv0⟩ := hget 0 _ rfl
  obtain ⟨y3, hy3, hv3⟩ := hget 3 _ rfl
  simp only [VR] at hv0 hv3
  have h3 : w.cell? ⟨(m d).blk, (m d).base + 3, none⟩ = some (.bool down) := by
    simp only [World.cell?, hcell]; rw [← hv3]; exact hy3
  have h0 : w.cell? ⟨(m d).blk, (m d).base, none⟩ = some (.map (some (m mm).blk)) := by
    simp only [World.cell?, hcell]
    rw [show (some (Id.new mm |>.blk m)) = some (m mm).blk from rfl] at hv0
    rw [← hv0.2]; exact hy0
  have fin : ∀ {u : AV} {H1 : Heap}, (ressK B ((argsEnv aNames.slots [.ptr (some (.new d, 0))]).upd 0 u) H1 aNames.res fun vs => Q (resultOf vs) H1) → Q u H1 := fun {u H1} h => h
  cases down with
  | true =>
    refine (Try.list_down w _ _ h3).mono fun e w' ⟨he, hw⟩ => ?_
    subst hw
    exact ⟨.nils, H, m, _, fin (hdn rfl), he, Ext.refl _ _, R, rfl⟩
  | false =>
    obtain ⟨ks, k1, k2, k3, k4, k5, k6, k7, k8⟩ := hup rfl
    obtain ⟨_, es', hmap, hent⟩ := R.objs mm _ hm
    obtain ⟨g1, g2⟩ := keys_of hent k1
    obtain ⟨D0, hown, hsz, hperm⟩ := names_own (H' := Unit) Try.underlying9 hmap g1 k2 (fun x hx => by
      have : x.born ∈ es'.toList.map (·.born) := List.mem_map.2 ⟨x, hx, rfl⟩
      rw [g2] at this
      obtain ⟨e, he, e2⟩ := List.mem_map.1 this
      rw [← e2]; exact k3 e he) (by rw [g2]; exact k4) k5 k6
    have hmx : maxLen = 9223372036854775807 := by decide
    refine (Try.list_up _ _ D0 _ w _ _ h3 h0 hown (by rw [hsz, hmx]; omega) (by rw [hsz]; omega)).mono fun e w' ⟨x, ss, he, hS, hrow, hnil, hb⟩ => ?_
    have hps : ss.Perm ks := hS.trans hperm
    by_cases hks : ks = []
    · have : ss = [] := by rw [hks] at hps; exact List.Perm.eq_nil hps
      exact ⟨.nils, H, m, x, fin (k7 hks), he, Ext.refl _ _, R.grown hb, hnil.2 this⟩
    · have hss : ss ≠ [] := fun e => hks (by rw [e] at hps; exact (List.Perm.eq_nil hps.symm))
      obtain ⟨hl, ⟨e, _⟩ | ⟨g, cap, cur, rfl, hg, hcg, hn, _, hcs, htk⟩⟩ := hrow
      · exact absurd (hnil.1 e) hss
      · have hlen := hps.length_eq
        have hml : (ss.mergeSort fun x y => decide (x ≤ y)).length = ss.length := List.length_mergeSort _
        have R' := R.row (c := (ss.mergeSort fun x y => decide (x ≤ y)).map AV.str) hb hg hcg (by rw [List.length_map, hml, hcs]; omega) (fun u hu => by obtain ⟨s, _, rfl⟩ := List.mem_map.1 hu; rfl) (fun j u hu => by
          rw [List.getElem?_map] at hu
          obtain ⟨s, hs, rfl⟩ := Option.map_eq_some_iff.1 hu
          have hj : j < ss.length := by
            have := (List.getElem?_eq_some_iff.1 hs).1
            rwa [hml] at this
          refine ⟨.string ⟨s.toArray⟩, ?_, rfl⟩
          have h9 : (cur.toList.take (ss.length * 1))[j]? = some (.string ⟨s.toArray⟩) := by
            rw [htk, List.getElem?_map, hs]; rfl
          rw [List.getElem?_take] at h9
          split at h9
          · simpa using h9
          · cases h9)
        refine ⟨_, _, _, _, fin (k8 hks ss hps), he, Ext.upd m H _ _, R', ?_⟩
        simp only [VR, Id.ok]
        rw [← hlen]
        refine ⟨by simp, _, _, rfl, hn, ?_, rfl, ?_, ?_, H.length, rfl, ?_⟩
        · simp [Id.blk]
        · simp [Id.beg]
        · simp [Id.beg]
        · simp only [upd_same]; show 0 + cap * 1 ≤ cur.size; omega
end Go.Am
