/- The laws' cut copies: paths, openings, entries, requests. -/
import Derived.Test.YtdkgdkifeedcnaaSmB
namespace Go.Am
open Go

def joinC (C C' : Nat → Option AObj) (n : Nat) : Nat → Option AObj := fun p => if p < n then C p else C' p
def cutO (o : Opn) : Opn := ⟨o.at_, o.leaf.take 300, o.path.take 70⟩
def cutE (e : Ent) : Ent := ⟨e.key.take 130, e.value.take 1030, e.del, e.seq⟩
def cutEs (m : Nat) (l : List Ent) : List Ent := (l.take m).map cutE
def cutQ (r : Rq) : Rq := ⟨r.kind, cutEs 40 r.ents, r.key.take 200, r.lo.take 200, r.hi.take 200, r.epoch⟩

section
variable {B : Base} {n : Nat} {H G G' : Heap} {C C' : Nat → Option AObj} {Q : AV → Heap → Prop}

theorem KW.zero : KW G G (fun _ => none) := ⟨⟨[], (List.append_nil _).symm⟩, fun p o hp => by cases hp⟩
theorem KW.join (k : KW H G C) (k' : KW G G' C') : KW H G' (joinC C C' G.length) := by
  obtain ⟨⟨L, hL⟩, h2⟩ := k
  obtain ⟨⟨L', hL'⟩, h2'⟩ := k'
  refine ⟨⟨L ++ L', by rw [hL', hL, List.append_assoc]⟩, fun p o hp => ?_⟩
  unfold joinC at hp
  split at hp
  · rw [hL']; exact get_pre (h2 p o hp)
  · exact h2' p o hp
theorem join_old (k : KW H G C) {p : Nat} {o : AObj} (h : C p = some o) : joinC C C' G.length p = some o := by
  unfold joinC; rw [if_pos (k.lt h)]; exact h
theorem SlF.joinR {k0 es : Nat} {v : AV} {rows : List (List AV)} (h : SlF C' G.length es v rows) (hk : k0 ≤ G.length) : SlF (joinC C C' G.length) k0 es v rows :=
  h.mono hk fun j o hj hc => by unfold joinC; rw [if_neg (by omega)]; exact hc
theorem SlF.joinL {k0 es : Nat} {v : AV} {rows : List (List AV)} (k : KW H G C) (h : SlF C k0 es v rows) : SlF (joinC C C' G.length) k0 es v rows :=
  h.mono (Nat.le_refl _) fun j o _ hc => join_old k hc
theorem AccA.join {k0 es : Nat} {v : AV} {rows : List (List AV)} (a : AccA H G C k0 es v rows) (k' : KW G G' C') : AccA H G' (joinC C C' G.length) k0 es v rows := by
  obtain ⟨h0, h1 | ⟨q, rfl, h1, h2, h3, h4⟩⟩ := a
  · exact ⟨h0, .inl h1⟩
  · have hlt := lt_of_get h3
    obtain ⟨⟨L', hL'⟩, _⟩ := k'
    exact ⟨h0, .inr ⟨q, rfl, h1, h2, by rw [hL']; exact get_pre h3, by unfold joinC; rw [if_pos hlt]; exact h4⟩⟩
/-- Append of rows to nothing. -/
theorem op_copyQ {K : AV → Heap → Prop} {q k0 es bytes : Nat} {u : AV} {rows : List (List AV)} (k : KW H G C) (hq : G[q]? = some (.arr [])) (hk0 : k0 ≤ q) (hu : Sl B G es u rows) (hb : rows.length * bytes ≤ maxBytes)
    (hK : ∀ v' G' C', KW H G' C' → (∀ p o, C p = some o → C' p = some o) → SlF C' k0 es v' rows → (∃ L, G' = G ++ L) → K v' G') : aop B E0 G K (.append es bytes (.const (.slice (.new q) 0 0 es (some 0))) (.const u)) := by
  by_cases hr : rows = []
  · subst hr
    have hn : appendTo B G es bytes (.slice (.new q) 0 0 es (some 0)) 0 [] = some (.slice (.new q) 0 0 es (some 0), G) := rfl
    refine op_app (m := 0) (c := []) hu.len hu.elems (by simp) hn (hK _ _ (updC C q (.arr [])) ⟨k.pre, fun p o hp => ?_⟩ (fun p o hp => ?_) ⟨hu.1, .inr ⟨q, some 0, rfl, hk0, updC_at⟩⟩ ⟨[], (List.append_nil _).symm⟩)
    · unfold updC at hp
      split at hp
      · rename_i e; subst e; cases hp; exact hq
      · exact k.cs p o hp
    · unfold updC
      split
      · rename_i e; subst e
        have := k.cs p o hp
        rw [hq] at this
        exact this
      · exact hp
  · have hl := flatten_len hu.1
    have hn2 : rows.length ≠ 0 := by intro e; exact hr (List.length_eq_zero_iff.1 e)
    have hc : cellsAt B G (.new q) 0 (0 * es) = some [] := cellsAt_iff'.2 ⟨[], by simp only [cellsOf, hq], by simp, by simp⟩
    have hn : appendTo B G es bytes (.slice (.new q) 0 0 es (some 0)) rows.length rows.flatten = some (.slice (.new G.length) 0 (0 + rows.length) es none, G ++ [.arr ([] ++ rows.flatten)]) := by
      unfold appendTo
      rw [if_neg hn2]
      show (if es = es then if 0 + rows.length ≤ 0 then _ else if (0 + rows.length) * bytes ≤ maxBytes then _ else _ else _) = _
      rw [if_pos rfl, if_neg (by omega), if_pos (by simpa using hb), hc]
      rfl
    have hlt := lt_of_get hq
    refine op_app hu.len hu.elems hl hn (hK _ _ _ (k.add _) (keeps_add k) ⟨hu.1, .inr ⟨G.length, none, by rw [Nat.zero_add], by omega, by rw [updC_at, List.nil_append]⟩⟩ ⟨_, rfl⟩)
theorem op_pre {K : AV → Heap → Prop} {es m : Nat} {v : AV} {rows : List (List AV)} {N : Nat} (hs : Sl B G es v rows) (hN : N = rows.length) (h : ∀ v', Sl B G es v' (rows.take m) → K v' G) : aop B E0 G K (.sliceL es (.const v) none (some (.const (.int .i64 (minInts (N : Int) [(m : Int)])))) none) := by
  subst hN
  rw [min_nat]
  refine op_prefix hs rfl (Nat.min_le_left ..) fun v' hv _ => h v' ?_
  rw [show rows.take (min rows.length m) = rows.take m from by rw [List.take_eq_take_min (i := m), Nat.min_comm]] at hv
  exact hv

theorem f37_ok {v : AV} {l : List (List UInt8)} (hv : PathR B G v l) (hk : ∀ v' G' C', KW G G' C' → SlF C' G.length 32 v' ((l.take 70).map dg) → Q v' G') : Cl B 37 [v] G Q := by
  have hbig : maxBytes = 140737488355328 := rfl
  refine f37_in fun n cl hn hcl hH hA => ?_
  rw [show layParts [] [] = some [] from rfl, ob_some]
  refine slK_in ?_
  have hl := Sl.len hv
  rw [hl, ob_some]
  have k1 := (KW.zero (G := G)).grow [.arr []]
  refine op_pre (m := 70) (Sl.pre hv) rfl fun u hu => op_copyQ k1 (by rw [get_app0]; rfl) (Nat.le_refl _) hu ?_ fun v' G' C' k' _ s' _ => tidy_none (hk v' G' C' k' ?_)
  · rw [List.length_take]; omega
  · rw [List.map_take]; exact s'

theorem live_slF {k0 es : Nat} {v : AV} {rows : List (List AV)} {K : AV → Prop} (h : SlF C k0 es v rows) (hk : K v) : pLive v K := live_isL (slF_isL h) hk
/-- An opening, cut. -/
theorem f36_ok {c : List AV} {o : Opn} (ho : OpR B G c o) (hk : ∀ c' G' C', KW G G' C' → OpM (SlF C' G.length) c' (cutO o) → Q (.agg c') G') : Cl B 36 [.agg c] G Q := by
  have hbig : maxBytes = 140737488355328 := rfl
  obtain ⟨lv, pv, rfl, hl, hp⟩ := ho
  obtain ⟨a, t, l⟩ := o
  refine f36_in fun n cl hn hcl hH hA => op_box rfl rfl (op_alloc (op_fldP ?_))
  subst hcl
  have k1 := (KW.zero (G := G)).add (.var [.int .i64 a, lv, pv])
  have k2 := k1.add (.var [.int .i64 0, .nils, .nils])
  have e1 : (G ++ [AObj.var [.int .i64 a, lv, pv]]).length = G.length + 1 := by simp
  have c1 := keeps_add (o := .var [.int .i64 0, .nils, .nils]) k1 _ _ updC_at
  have c2 : updC (updC (fun _ => none) G.length (.var [.int .i64 a, lv, pv])) (G ++ [AObj.var [.int .i64 a, lv, pv]]).length (.var [.int .i64 0, .nils, .nils]) (G ++ [AObj.var [.int .i64 a, lv, pv]]).length = some (.var [.int .i64 0, .nils, .nils]) := updC_at
  have hr : G.length ≤ (G ++ [AObj.var [.int .i64 a, lv, pv]]).length := by rw [e1]; omega
  generalize (G ++ [AObj.var [.int .i64 a, lv, pv]]).length = r at k2 c1 c2 hr ⊢
  generalize updC (updC (fun _ => none) G.length (.var [.int .i64 a, lv, pv])) r (.var [.int .i64 0, .nils, .nils]) = C2 at k2 c1 c2
  generalize G ++ [AObj.var [.int .i64 a, lv, pv]] ++ [.var [.int .i64 0, .nils, .nils]] = G2 at k2 ⊢
  have hl2 : Bs B G2 lv t := k2.bs hl
  have p1 : ∀ {i : Nat} {v : AV} {M : Heap} {D : Nat → Option AObj}, KW G M D → (∀ p o, C2 p = some o → D p = some o) → ([.int .i64 a, lv, pv] : List AV)[i]? = some v → peek B M (.ptr (some (.new G.length, i))) = some v := fun {i v M D} k e h => peekV (k.cs _ _ (e _ _ c1)) h
  have id2 : ∀ p o, C2 p = some o → C2 p = some o := fun _ _ h => h
  rw [p1 (v := .int .i64 a) k2 id2 rfl, ob_some]
  refine int_i (op_fldP ?_)
  rw [p1 (v := lv) k2 id2 rfl, ob_some]
  refine Sl.live hl _ (op_fldP ?_)
  rw [p1 (v := lv) k2 id2 rfl, ob_some]
  refine Sl.live hl _ ?_
  rw [hl.len, ob_some]
  refine op_pre (m := 300) (rows := t.map brw) hl2 (by rw [List.length_map]) fun u hu => op_fldP ?_
  rw [p1 (v := pv) k2 id2 rfl, ob_some]
  refine Sl.live hp _ ?_
  rw [show layParts [] [] = some [] from rfl, ob_some]
  refine slK_in ?_
  have k3 := k2.grow [.arr []]
  refine op_copyQ k3 (by rw [get_app0]; rfl) (Nat.le_trans k2.le (Nat.le_refl _)) hu.pre (by rw [List.length_take]; omega) fun v4 G4 C4 k4 x4 s4 _ => ?_
  have hp4 : PathR B G4 pv l := by obtain ⟨L, hL⟩ := k4.pre; rw [hL]; exact hp.pre
  refine ⟨by rw [p1 (v := pv) k4 x4 rfl, ob_some]; exact Sl.live hp _ rfl, op_fldP rfl, by rw [p1 (v := .int .i64 a) k4 x4 rfl, ob_some]; exact int_i rfl, op_fldP rfl, ?_⟩
  refine f37_ok hp4 fun v5 G5 C5 k5 s5 => live_slF s5 ?_
  have k6 := k4.join k5
  have x6 : ∀ p o, C2 p = some o → joinC C4 C5 G4.length p = some o := fun p o h => join_old k4 (x4 p o h)
  have s6 : SlF (joinC C4 C5 G4.length) G.length 1 v4 ((t.take 300).map brw) := by
    rw [← List.map_take] at s4
    exact s4.joinL k4
  have s7 := SlF.joinR (C := C4) (k0 := G.length) s5 k4.le
  generalize joinC C4 C5 G4.length = C6 at k6 x6 s6 s7
  refine ⟨by rw [p1 (v := .int .i64 a) k6 x6 rfl, ob_some]; exact int_i rfl, op_fldP rfl, ?_⟩
  rw [show layParts [(.int .i64 0), .nils, .nils] [(0, 1, .int .i64 a), (1, 1, v4), (2, 1, v5)] = some [.int .i64 a, v4, v5] from by
    obtain rfl | ⟨_, _, _, _, rfl⟩ := s6.isL <;> obtain rfl | ⟨_, _, _, _, rfl⟩ := s7.isL <;> rfl, ob_some]
  have c26 := x6 _ _ c2
  refine op_st (c := [.int .i64 0, .nils, .nils]) (vs := [.int .i64 a, v4, v5]) rfl rfl (k6.cs r _ c26) (by simp) ?_
  have k7 := k6.set c26 hr (.var [.int .i64 a, v4, v5])
  rw [putAt_all (show ([.int .i64 0, .nils, .nils] : List AV).length = [AV.int .i64 a, v4, v5].length from rfl), peekVN (n := 3) (k7.cs r _ updC_at) rfl, ob_some]
  exact tidy_none (hk _ _ _ k7 ⟨v4, v5, rfl, SlF.upd c26 _ _ _ s6, SlF.upd c26 _ _ _ s7⟩)
end
end Go.Am

/- The laws' cut copies: entries, requests. -/
namespace Go.Am
open Go

section
variable {B : Base} {n : Nat} {H G G' : Heap} {C C' : Nat → Option AObj} {Q : AV → Heap → Prop}

theorem op_cutS {s : List UInt8} {m : Nat} {K : AV → Heap → Prop} (h : K (.str (s.take m)) G) : aop B E0 G K (.sliceS (.const (.str s)) none (some (.const (.int .i64 (minInts ((s.length : Nat) : Int) [(m : Int)]))))) := by
  have e : minInts ((s.length : Nat) : Int) [(m : Int)] = ((min s.length m : Nat) : Int) := by
    simp only [minInts]; split <;> omega
  rw [e]
  simp only [aop, opK, Opd.look, ob_some, pStr_str, optK, pAny_int]
  rw [if_pos ⟨by omega, by omega, by omega⟩]
  have e2 : (s.drop (0 : Int).toNat).take (((min s.length m : Nat) : Int).toNat - (0 : Int).toNat) = s.take m := by
    simp only [Int.toNat_zero, List.drop_zero, Nat.sub_zero, Int.toNat_natCast]
    rcases Nat.le_total s.length m with h1 | h1
    · rw [Nat.min_eq_left h1, List.take_length, List.take_of_length_le h1]
    · rw [Nat.min_eq_right h1]
  rw [e2]; exact h
theorem AccA.set {k0 es q : Nat} {v : AV} {rows : List (List AV)} {c : List AV} {o : AObj} (a : AccA H G C k0 es v rows) (hq : C q = some (.var c)) : AccA H (G.set q o) (updC C q o) k0 es v rows := by
  obtain ⟨h0, h1 | ⟨j, rfl, h1, h2, h3, h4⟩⟩ := a
  · exact ⟨h0, .inl h1⟩
  · have hne : q ≠ j := fun e => by subst e; rw [hq] at h4; cases h4
    exact ⟨h0, .inr ⟨j, rfl, h1, h2, by rw [get_set_ne hne]; exact h3, by rw [updC_ne (Ne.symm hne)]; exact h4⟩⟩
theorem AccA.addC {k0 es : Nat} {v : AV} {rows : List (List AV)} {o : AObj} (a : AccA H G C k0 es v rows) : AccA H (G ++ [o]) (updC C G.length o) k0 es v rows := by
  obtain ⟨h0, h1 | ⟨j, rfl, h1, h2, h3, h4⟩⟩ := a
  · exact ⟨h0, .inl h1⟩
  · have := lt_of_get h3
    exact ⟨h0, .inr ⟨j, rfl, h1, h2, get_pre h3, by rw [updC_ne (by omega)]; exact h4⟩⟩
theorem AccA.grow {k0 es : Nat} {v : AV} {rows : List (List AV)} {L : Heap} (a : AccA H G C k0 es v rows) : AccA H (G ++ L) C k0 es v rows := by
  obtain ⟨h0, h1 | ⟨j, rfl, h1, h2, h3, h4⟩⟩ := a
  · exact ⟨h0, .inl h1⟩
  · exact ⟨h0, .inr ⟨j, rfl, h1, h2, get_pre h3, h4⟩⟩
theorem AccA.live {k0 es : Nat} {v : AV} {rows : List (List AV)} {K : AV → Prop} (a : AccA H G C k0 es v rows) (hk : K v) : pLive v K := by
  obtain ⟨h0, ⟨rfl, _⟩ | ⟨j, rfl, _⟩⟩ := a <;> exact hk
theorem AccA.cells {k0 es : Nat} {v : AV} {rows : List (List AV)} (a : AccA H G C k0 es v rows) : v.cells? = some [v] := by
  obtain ⟨h0, ⟨rfl, _⟩ | ⟨j, rfl, _⟩⟩ := a <;> rfl
/-- It is told at last. -/
theorem AccA.done {k0 es : Nat} {v : AV} {rows : List (List AV)} (a : AccA H G C k0 es v rows) (k : KW H G C) : ∃ C', KW H G C' ∧ (∀ p o, C p = some o → C' p = some o) ∧ SlF C' k0 es v rows := by
  obtain ⟨h0, ⟨rfl, rfl⟩ | ⟨q, rfl, h1, h2, h3, h4⟩⟩ := a
  · exact ⟨C, k, fun _ _ h => h, h0, .inl ⟨rfl, rfl⟩⟩
  · refine ⟨updC C q (.arr rows.flatten), ⟨k.pre, fun j o hj => ?_⟩, fun j o hj => ?_, h0, .inr ⟨q, none, rfl, h1, updC_at⟩⟩
    · unfold updC at hj
      split at hj
      · rename_i e; subst e; cases hj; exact h3
      · exact k.cs j o hj
    · rw [updC_ne (fun e => by subst e; rw [h4] at hj; cases hj)]; exact hj
theorem sl_one {es : Nat} {row : List AV} (h : row.length = es) : Sl B (G ++ [.arr row]) es (.slice (.new G.length) 0 1 es (some 1)) [row] := sl_row1 h

theorem f24_go {m : Nat} {l : List Ent} {ev : AV} (hm : m ≤ 100) (he : Sl B G 4 ev (l.map Ent.row)) (hk : ∀ v' G' C', KW G G' C' → SlF C' G.length 4 v' ((cutEs m l).map Ent.row) → Q v' G') : ∀ (f i : Nat) (acc : AV) (M : Heap) (C : Nat → Option AObj), min l.length m = i + f → KW G M C → AccA G M C G.length 4 acc ((cutEs i l).map Ent.row) → L24_4 B (Cl B) n ev (m : Int) acc (i : Int) M Q := by
  have hbig : maxBytes = 140737488355328 := rfl
  have hlen : lenOf ev = some l.length := by have := he.len; rwa [List.length_map] at this
  intro f
  induction f with
  | zero =>
    intro i acc M C hi k a
    have fin : J24_5 B (Cl B) n acc M Q := by
      obtain ⟨C', k', _, s⟩ := a.done k
      have e : cutEs i l = cutEs m l := by
        unfold cutEs
        rw [show i = min m l.length from by omega, ← List.take_eq_take_min]
      rw [e] at s
      exact J24_5_in (tidy_none (hk _ _ _ k' s))
    refine L24_4_in (ACall.cle B table) ?_
    rw [hlen, ob_some]
    exact bs_dec (fun h1 => bs_dec (fun h2 => by omega) fun _ => fin) fun _ => fin
  | succ f ih =>
    intro i acc M C hi k a
    have hlt : i < l.length := by omega
    have hx : l[i]? = some l[i] := List.getElem?_eq_getElem hlt
    have hcut : cutEs (i + 1) l = cutEs i l ++ [cutE l[i]] := by
      unfold cutEs
      rw [List.take_add_one, hx, List.map_append]
      rfl
    generalize l[i] = e at hx hcut
    have hrow : (l.map Ent.row)[i]? = some e.row := by simp [hx]
    have heM : Sl B M 4 ev (l.map Ent.row) := by obtain ⟨L, hL⟩ := k.pre; rw [hL]; exact he.pre
    refine L24_4_in (ACall.cle B table) ?_
    rw [hlen, ob_some]
    refine bs_yes (decide_eq_true (by omega)) (bs_yes (decide_eq_true (by omega)) (J24_3_in (op_idx heM (by rw [List.length_map]; exact hlt) ?_)))
    rw [(heM.el hrow).peekN (n := 4) rfl, ob_some]
    refine op_alloc (op_st_last rfl rfl ?_)
    have k1 := k.add (.var e.row)
    have a1 := a.addC (o := .var e.row)
    have c1 : updC C M.length (.var e.row) M.length = some (.var e.row) := updC_at
    have hr := k.le
    generalize M.length = r at k1 a1 c1 hr ⊢
    generalize updC C r (.var e.row) = C1 at k1 a1 c1
    generalize M ++ [AObj.var e.row] = M1 at k1 a1 ⊢
    refine J24_2_in (op_fldP ?_)
    rw [peekV (k1.cs r _ c1) (v := .str e.key) rfl, ob_some]
    refine str_u (op_fldP ?_)
    rw [peekV (k1.cs r _ c1) (v := .str e.key) rfl, ob_some]
    refine str_u (op_cutS (op_fldP (op_st (c := e.row) (vs := [.str (e.key.take 130)]) rfl rfl (k1.cs r _ c1) (by simp [Ent.row]) ?_)))
    rw [show putAt e.row (0 + 0) [.str (e.key.take 130)] = Ent.row ⟨e.key.take 130, e.value, e.del, e.seq⟩ from rfl]
    have k2 := k1.set c1 hr (.var (Ent.row ⟨e.key.take 130, e.value, e.del, e.seq⟩))
    have a2 := a1.set (o := .var (Ent.row ⟨e.key.take 130, e.value, e.del, e.seq⟩)) c1
    have c2 : updC C1 r (.var (Ent.row ⟨e.key.take 130, e.value, e.del, e.seq⟩)) r = some (.var (Ent.row ⟨e.key.take 130, e.value, e.del, e.seq⟩)) := updC_at
    generalize updC C1 r (.var (Ent.row ⟨e.key.take 130, e.value, e.del, e.seq⟩)) = C2 at k2 a2 c2
    generalize M1.set r (.var (Ent.row ⟨e.key.take 130, e.value, e.del, e.seq⟩)) = M2 at k2 a2 ⊢
    refine J24_1_in (op_fldP ?_)
    rw [peekV (k2.cs r _ c2) (v := .str e.value) rfl, ob_some]
    refine str_u (op_fldP ?_)
    rw [peekV (k2.cs r _ c2) (v := .str e.value) rfl, ob_some]
    refine str_u (op_cutS (op_fldP (op_st (c := Ent.row ⟨e.key.take 130, e.value, e.del, e.seq⟩) (vs := [.str (e.value.take 1030)]) rfl rfl (k2.cs r _ c2) (by simp [Ent.row]) ?_)))
    rw [show putAt (Ent.row ⟨e.key.take 130, e.value, e.del, e.seq⟩) (0 + 1) [.str (e.value.take 1030)] = (cutE e).row from rfl]
    have k3 := k2.set c2 hr (.var (cutE e).row)
    have a3 := a2.set (o := .var (cutE e).row) c2
    have c3 : updC C2 r (.var (cutE e).row) r = some (.var (cutE e).row) := updC_at
    generalize updC C2 r (.var (cutE e).row) = C3 at k3 a3 c3
    generalize M2.set r (.var (cutE e).row) = M3 at k3 a3 ⊢
    refine J24_0_in ?_
    rw [peekVN (n := 4) (k3.cs r _ c3) rfl, ob_some, show layParts [(.str []), (.str []), (.bool false), (.int .i64 0)] [(0, 4, .agg (cutE e).row)] = some (cutE e).row from rfl, ob_some]
    refine slK_in ?_
    have k4 := k3.grow [.arr (cutE e).row]
    have hlc : ((cutEs i l).map Ent.row).length ≤ 100 := by unfold cutEs; simp only [List.length_map, List.length_take]; omega
    refine op_appA k4 a3.grow k4.le (sl_one (row := (cutE e).row) rfl) (by simp) (by simp only [List.length_singleton]; omega) fun v' G' k5 a5 _ => ?_
    rw [w64 (by omega)]
    refine ih (i + 1) v' G' C3 (by omega) k5 ?_
    rw [hcut, List.map_append]
    exact a5
theorem f24_ok {m : Nat} {l : List Ent} {ev : AV} (hm : m ≤ 100) (he : Sl B G 4 ev (l.map Ent.row)) (hk : ∀ v' G' C', KW G G' C' → SlF C' G.length 4 v' ((cutEs m l).map Ent.row) → Q v' G') : Cl B 24 [ev, .int .i64 (m : Int)] G Q := by
  refine f24_in fun n cl hn hcl hH hA => ?_
  subst hcl
  exact f24_go hm he hk (min l.length m) 0 .nils G _ (by omega) KW.zero ⟨fun r hr => by simp [cutEs] at hr, .inl ⟨rfl, rfl⟩⟩

end
end Go.Am

/- The laws' cut copies: replies. -/
namespace Go.Am
open Go

def cutP (p : Pnt) : Pnt := ⟨p.btw, cutO p.a, cutO p.b⟩
def cutS (x : Spn) : Spn := ⟨x.frm, (x.leaves.take 70).map (fun t => t.take 300), x.path.take 70⟩
def cutR (r : Rpl) : Rpl := ⟨r.err, r.last, r.epoch, r.psum.take 300, (r.pts.take 6).map cutP, r.ssum.take 300, (r.sns.take 6).map cutS, r.sum.take 300, (r.rows.take 6).map (cutEs 70)⟩
def Mono (T : MM → Prop) : Prop := ∀ N N' : MM, (∀ es v rows, N es v rows → N' es v rows) → T N → T N'

/-- The state of the copying: the reply at x1, the result's place at x2, what is built at x3. -/
structure Z16 (G M : Heap) (C : Nat → Option AObj) (x1 x2 x3 : Nat) (c0 cc : List AV) (T : MM → Prop) : Prop where
  k : KW G M C
  c1 : C x1 = some (.var c0)
  c2 : C x2 = some (.var (row3 0 0 0))
  c3 : C x3 = some (.var cc)
  l2 : G.length ≤ x2
  l3 : G.length ≤ x3
  n13 : x1 ≠ x3
  n23 : x2 ≠ x3
  t : T (SlF C G.length)

section
variable {B : Base} {n : Nat} {G M M' : Heap} {C C' : Nat → Option AObj} {Q : AV → Heap → Prop} {x1 x2 x3 : Nat} {c0 cc : List AV} {T : MM → Prop}

theorem Z16.add (hT : Mono T) (z : Z16 G M C x1 x2 x3 c0 cc T) (o : AObj) : Z16 G (M ++ [o]) (updC C M.length o) x1 x2 x3 c0 cc T :=
  ⟨z.k.add o, keeps_add z.k _ _ z.c1, keeps_add z.k _ _ z.c2, keeps_add z.k _ _ z.c3, z.l2, z.l3, z.n13, z.n23, hT _ _ (SlF.add z.k) z.t⟩
theorem Z16.grow (z : Z16 G M C x1 x2 x3 c0 cc T) (L : List AObj) : Z16 G (M ++ L) C x1 x2 x3 c0 cc T :=
  ⟨z.k.grow L, z.c1, z.c2, z.c3, z.l2, z.l3, z.n13, z.n23, z.t⟩
theorem Z16.join (hT : Mono T) (z : Z16 G M C x1 x2 x3 c0 cc T) (k' : KW M M' C') : Z16 G M' (joinC C C' M.length) x1 x2 x3 c0 cc T :=
  ⟨z.k.join k', join_old z.k z.c1, join_old z.k z.c2, join_old z.k z.c3, z.l2, z.l3, z.n13, z.n23, hT _ _ (fun _ _ _ h => SlF.joinL z.k h) z.t⟩
theorem Z16.keep (hT : Mono T) (z : Z16 G M C x1 x2 x3 c0 cc T) (k' : KW G M' C') (e : ∀ p o, C p = some o → C' p = some o) : Z16 G M' C' x1 x2 x3 c0 cc T :=
  ⟨k', e _ _ z.c1, e _ _ z.c2, e _ _ z.c3, z.l2, z.l3, z.n13, z.n23, hT _ _ (fun _ _ _ h => h.mono (Nat.le_refl _) fun j o _ hj => e j _ hj) z.t⟩
theorem Z16.set (hT : Mono T) (z : Z16 G M C x1 x2 x3 c0 cc T) (cc' : List AV) : Z16 G (M.set x3 (.var cc')) (updC C x3 (.var cc')) x1 x2 x3 c0 cc' T :=
  ⟨z.k.set z.c3 z.l3 _, by rw [updC_ne z.n13]; exact z.c1, by rw [updC_ne z.n23]; exact z.c2, updC_at, z.l2, z.l3, z.n13, z.n23, hT _ _ (SlF.upd z.c3) z.t⟩
theorem Z16.re {T' : MM → Prop} (z : Z16 G M C x1 x2 x3 c0 cc T) (t : T' (SlF C G.length)) : Z16 G M C x1 x2 x3 c0 cc T' := ⟨z.k, z.c1, z.c2, z.c3, z.l2, z.l3, z.n13, z.n23, t⟩
theorem Z16.p1 (z : Z16 G M C x1 x2 x3 c0 cc T) {i : Nat} {v : AV} (h : c0[i]? = some v) : peek B M (.ptr (some (.new x1, i))) = some v := peekV (z.k.cs _ _ z.c1) h
theorem Z16.p3 (z : Z16 G M C x1 x2 x3 c0 cc T) {i : Nat} {v : AV} (h : cc[i]? = some v) : peek B M (.ptr (some (.new x3, i))) = some v := peekV (z.k.cs _ _ z.c3) h
/-- A field of what is built is written. -/
theorem Z16.put (hT : Mono T) (z : Z16 G M C x1 x2 x3 c0 cc T) {off : Nat} {v : AV} {cc' : List AV} {K : Heap → Prop} (hv : v.cells? = some [v]) (ho : off + 1 ≤ cc.length) (hp : putAt cc off [v] = cc')
    (hK : Z16 G (M.set x3 (.var cc')) (updC C x3 (.var cc')) x1 x2 x3 c0 cc' T → K (M.set x3 (.var cc'))) : aop B E0 M (fun _ H => K H) (.st 1 (.const (.ptr (some (.new x3, off)))) (.const v)) := by
  refine op_st (c := cc) (vs := [v]) hv rfl (z.k.cs _ _ z.c3) ho ?_
  rw [hp]
  exact hK (z.set hT cc')

/-- A text of the reply is copied into its field. -/
theorem text_put (hT : Mono T) (z : Z16 G M C x1 x2 x3 c0 cc T) {lv : AV} {s : List UInt8} (hl : Bs B G lv s) {i off : Nat} (hi : c0[i]? = some lv) (ho : off + 1 ≤ cc.length) {K : Heap → Prop}
    (hK : ∀ w M' C', Z16 G M' C' x1 x2 x3 c0 (putAt cc off [w]) (fun N => T N ∧ BsM N w (s.take 300)) → K M') :
    slK M 1 0 [] fun v20 H21 => (ob (peek B H21 (.ptr (some (.new x1, i)))) fun c23 => pLive c23 fun v24 => (ob (peek B H21 (.ptr (some (.new x1, i)))) fun c26 => pLive c26 fun v27 => ob (lenOf (v27)) fun k28 => (aop B E0 H21 (fun v29 _ => (aop B E0 H21 (fun v30 H31 => (aop B E0 H31 (fun v33 H34 => K H34) (.st 1 (.const (.ptr (some (.new x3, off)))) (.const (v30))))) (.append 1 1 (.const (v20)) (.const (v29))))) (.sliceL 1 (.const (v24)) none (some (.const (.int .i64 (minInts ((k28 : Int)) [300])))) none)))) := by
  have hbig : maxBytes = 140737488355328 := rfl
  refine slK_in ?_
  have z1 := z.grow [.arr []]
  have hlM : Bs B (M ++ [.arr []]) lv s := by obtain ⟨L, hL⟩ := z1.k.pre; rw [hL]; exact hl.pre
  rw [z1.p1 hi, ob_some]
  refine Sl.live hlM _ ?_
  rw [ob_some]
  refine Sl.live hlM _ ?_
  rw [hlM.len, ob_some]
  refine op_pre (m := 300) (rows := s.map brw) hlM (by rw [List.length_map]) fun u hu => ?_
  refine op_copyQ z1.k (by rw [get_app0]; rfl) z.k.le hu (by rw [List.length_take]; omega) fun v' M' C' k' e' s' _ => ?_
  have z2 := (z1.keep hT k' e')
  have s2 : BsM (SlF C' G.length) v' (s.take 300) := by rw [← List.map_take] at s'; exact s'
  have z3 := z2.re (T' := fun N => T N ∧ BsM N v' (s.take 300)) ⟨z2.t, s2⟩
  exact z3.put (fun N N' h ht => ⟨hT N N' h ht.1, h _ _ _ ht.2⟩) (cells_isL (slF_isL s')) ho rfl fun z4 => hK v' _ _ z4

theorem F2.len {α β : Type} {R : α → β → Prop} {l : List α} {m : List β} (h : F2 R l m) : l.length = m.length := h.1

abbrev cc9 (e l p : Int) (w3 w4 w5 w6 w7 w8 : AV) : List AV := [.int .i64 e, .int .i64 l, .int .i64 p, w3, w4, w5, w6, w7, w8]

/-- The points. -/
theorem pts_loop (hT : Mono T) {e l p : Int} {w3 w5 w7 v4 : AV} {pts : List Pnt} (hc : c0[3 + 1]? = some v4) (hp : PtsR B G v4 pts)
    (hK : ∀ M C w4, Z16 G M C x1 x2 x3 c0 (cc9 e l p w3 w4 w5 .nils w7 .nils) (fun N => T N ∧ LE 7 PtM N w4 ((pts.take 6).map cutP)) → J16_18 B (Cl B) n (pt x1) (pt x2) (pt x3) M Q) :
    ∀ (f i : Nat) (acc : AV) (cs : List (List AV)) (M : Heap) (C : Nat → Option AObj), min pts.length 6 = i + f → Z16 G M C x1 x2 x3 c0 (cc9 e l p w3 acc w5 .nils w7 .nils) T → AccA G M C G.length 7 acc cs → F2 (PtM (SlF C G.length)) cs ((pts.take i).map cutP) → L16_3 B (Cl B) n (pt x1) (pt x2) (pt x3) (i : Int) M Q := by
  have hbig : maxBytes = 140737488355328 := rfl
  have hlen : lenOf v4 = some pts.length := by obtain ⟨rows, h1, h2⟩ := hp; rw [h1.len, h2.1]
  intro f
  induction f with
  | zero =>
    intro i acc cs M C hi z a hf
    have fin : J16_18 B (Cl B) n (pt x1) (pt x2) (pt x3) M Q := by
      obtain ⟨C', k', e', s⟩ := a.done z.k
      have z2 := z.keep hT k' e'
      refine hK M C' acc (z2.re ⟨z2.t, cs, s, ?_⟩)
      have : pts.take 6 = pts.take i := by rw [List.take_eq_take_min, List.take_eq_take_min (i := i)]; congr 1; omega
      rw [this]
      exact hf.mono fun _ _ h => h.mono fun _ _ _ h => h.mono (Nat.le_refl _) fun j o _ hj => e' j _ hj
    refine L16_3_in (ACall.cle B table) (op_fldP (op_fldP ?_))
    rw [z.p1 hc, ob_some]
    refine PtsR.live hp ?_
    rw [hlen, ob_some]
    exact bs_dec (fun h1 => bs_dec (fun h2 => by omega) fun _ => fin) fun _ => fin
  | succ f ih =>
    intro i acc cs M C hi z a hf
    have hlt : i < pts.length := by omega
    have hx : pts[i]? = some pts[i] := List.getElem?_eq_getElem hlt
    have htake : (pts.take (i + 1)).map cutP = (pts.take i).map cutP ++ [cutP pts[i]] := by
      rw [List.take_add_one, hx, List.map_append]; rfl
    generalize pts[i] = pp at hx htake
    obtain ⟨rows, hr, hfr⟩ := hp
    obtain ⟨row, hrow, hpr⟩ := at_some hfr hx
    have hl7 : row.length = 7 := hr.1 row (List.mem_of_getElem? hrow)
    have hrM : Sl B M 7 v4 rows := by obtain ⟨L, hL⟩ := z.k.pre; rw [hL]; exact hr.pre
    refine L16_3_in (ACall.cle B table) (op_fldP (op_fldP ?_))
    rw [z.p1 hc, ob_some]
    refine hr.live _ ?_
    rw [hlen, ob_some]
    refine bs_yes (decide_eq_true (by omega)) (bs_yes (decide_eq_true (by omega)) (J16_2_in (op_fldP (op_fldP ?_))))
    rw [z.p1 hc, ob_some]
    refine hr.live _ (op_idx hrM (in_some hrow) ?_)
    rw [(hrM.el hrow).peekN hl7, ob_some]
    refine op_alloc (op_st_last rfl hl7 ?_)
    have z1 := z.add hT (.var row)
    have a1 := a.addC (o := .var row)
    have hf1 : F2 (PtM (SlF (updC C M.length (.var row)) G.length)) cs ((pts.take i).map cutP) := hf.mono fun _ _ h => h.mono (SlF.add z.k)
    have c5 : updC C M.length (.var row) M.length = some (.var row) := updC_at
    have hpr1 : PtR B (M ++ [.var row]) row pp := by obtain ⟨L, hL⟩ := z1.k.pre; rw [hL]; exact hpr.pre
    generalize M.length = x5 at z1 a1 hf1 c5 ⊢
    generalize updC C x5 (.var row) = C1 at z1 a1 hf1 c5
    generalize M ++ [AObj.var row] = M1 at z1 a1 hpr1 ⊢
    obtain ⟨ca, cb, rfl, hca, hcb⟩ := hpr1
    have la : ca.length = 3 := by obtain ⟨_, _, rfl, _⟩ := hca; rfl
    have lb : cb.length = 3 := by obtain ⟨_, _, rfl, _⟩ := hcb; rfl
    have pb : ∀ {M : Heap} {D : Nat → Option AObj}, KW G M D → D x5 = some (.var (.bool pp.btw :: (ca ++ cb))) → peek B M (.ptr (some (.new x5, 0 + 0))) = some (.bool pp.btw) := fun k h => peekV (k.cs _ _ h) rfl
    have p2 : ∀ {M : Heap} {D : Nat → Option AObj}, KW G M D → D x5 = some (.var (.bool pp.btw :: (ca ++ cb))) → peekN B M 3 (.ptr (some (.new x5, 0 + 4))) = some cb := fun k h => peekN_mid (a := .bool pp.btw :: ca) (d := []) (by rw [List.append_nil]; exact k.cs _ _ h) (by simp [la]) lb
    refine J16_0_in (op_fldP (op_fldP ?_))
    rw [z1.p3 (v := acc) rfl, ob_some]
    refine a1.live (op_fldP ?_)
    rw [pb z1.k c5, ob_some]
    refine tyK_bool (op_fldP ?_)
    rw [peekN_mid (i := 0 + 1) (m := 3) (a := [.bool pp.btw]) (c := ca) (d := cb) (z1.k.cs _ _ c5) rfl la, ob_some]
    refine op_fldP ?_
    rw [p2 z1.k c5, ob_some]
    refine f36_ok hca fun ca' M2 D2 k2 o2 => live_agg' ?_
    have z2 := z1.join hT k2
    have a2 := a1.join k2
    have c52 := join_old (C' := D2) z1.k c5
    have hf2 : F2 (PtM (SlF (joinC C1 D2 M1.length) G.length)) cs ((pts.take i).map cutP) := hf1.mono fun _ _ h => h.mono fun _ _ _ h => SlF.joinL z1.k h
    have oa : OpM (SlF (joinC C1 D2 M1.length) G.length) ca' (cutO pp.a) := o2.mono fun _ _ _ h => SlF.joinR h z1.k.le
    have hcb2 : OpR B M2 cb pp.b := by obtain ⟨L, hL⟩ := k2.pre; rw [hL]; exact hcb.pre
    generalize joinC C1 D2 M1.length = C2 at z2 a2 c52 hf2 oa
    refine ⟨by rw [p2 z2.k c52]; rfl, op_fldP rfl, by rw [pb z2.k c52, ob_some]; exact tyK_bool rfl, op_fldP rfl, by rw [z2.p3 (v := acc) rfl, ob_some]; exact a2.live rfl, op_fldP rfl, op_fldP rfl, ?_⟩
    refine f36_ok hcb2 fun cb' M3 D3 k3 o3 => live_agg' ?_
    have z3 := z2.join hT k3
    have a3 := a2.join k3
    have c53 := join_old (C' := D3) z2.k c52
    have hf3 : F2 (PtM (SlF (joinC C2 D3 M2.length) G.length)) cs ((pts.take i).map cutP) := hf2.mono fun _ _ h => h.mono fun _ _ _ h => SlF.joinL z2.k h
    have oa3 : OpM (SlF (joinC C2 D3 M2.length) G.length) ca' (cutO pp.a) := oa.mono fun _ _ _ h => SlF.joinL z2.k h
    have ob3 : OpM (SlF (joinC C2 D3 M2.length) G.length) cb' (cutO pp.b) := o3.mono fun _ _ _ h => SlF.joinR h z2.k.le
    generalize joinC C2 D3 M2.length = C3 at z3 a3 c53 hf3 oa3 ob3
    refine ⟨by rw [pb z3.k c53, ob_some]; exact tyK_bool rfl, op_fldP rfl, by rw [z3.p3 (v := acc) rfl, ob_some]; exact a3.live rfl, op_fldP rfl, op_fldP rfl, ?_⟩
    have hlay : layParts [(.bool false), (.int .i64 0), .nils, .nils, (.int .i64 0), .nils, .nils] [(0, 1, .bool pp.btw), (1, 3, .agg ca'), (4, 3, .agg cb')] = some (.bool pp.btw :: (ca' ++ cb')) := by
      obtain ⟨_, _, rfl, _⟩ := oa3
      obtain ⟨_, _, rfl, _⟩ := ob3
      rfl
    have hl7' : (AV.bool pp.btw :: (ca' ++ cb')).length = 7 := by simp [oa3.three, ob3.three]
    rw [hlay, ob_some, lay_row (n := 7) rfl hl7', ob_some]
    refine slK_in ?_
    have z4 := z3.grow [.arr (.bool pp.btw :: (ca' ++ cb'))]
    have a4 := a3.grow (L := [.arr (.bool pp.btw :: (ca' ++ cb'))])
    refine ⟨by rw [z4.p3 (v := acc) rfl, ob_some]; exact a4.live rfl, op_fldP rfl, op_fldP rfl, ?_⟩
    have hcl : cs.length ≤ 6 := by rw [hf.len, List.length_map, List.length_take]; omega
    refine op_appA z4.k a4 z4.k.le (sl_one hl7') (by simp) (by simp only [List.length_singleton]; omega) fun v' M5 k5 a5 _ => op_fldP (op_fldP ?_)
    have z5 := z4.keep hT k5 fun _ _ h => h
    refine z5.put hT a5.cells (by simp) (cc' := cc9 e l p w3 v' w5 .nils w7 .nils) rfl fun z6 => J16_1_in ?_
    rw [w64 (by omega)]
    refine ih (i + 1) v' _ _ _ (by omega) z6 (a5.set z5.c3) ?_
    rw [htake]
    exact F2.snoc (hf3.mono fun _ _ h => h.mono (SlF.upd z5.c3)) ((show PtM (SlF C3 G.length) _ (cutP pp) from ⟨ca', cb', rfl, oa3, ob3⟩).mono (SlF.upd z5.c3))
end
end Go.Am

/- The laws' cut copies: spans, rows; replies. -/
namespace Go.Am
open Go

section
variable {B : Base} {n : Nat} {G M M' : Heap} {C C' : Nat → Option AObj} {Q : AV → Heap → Prop} {x1 x2 x3 : Nat} {c0 cc : List AV} {T : MM → Prop}

theorem join_new {p k : Nat} (h : k ≤ p) : joinC C C' k p = C' p := by unfold joinC; rw [if_neg (by omega)]
theorem take_min {α : Type} {l : List α} {i m f : Nat} (h : min l.length m = i + f) (hf : f = 0) : l.take m = l.take i := by
  rw [List.take_eq_take_min, List.take_eq_take_min (i := i)]; congr 1; omega

/-- The leaves of a span. -/
theorem leaves_loop {i0 a : Int} {lv pv w2 : AV} {x7 x8 : Nat} {leaves path : List (List UInt8)} (hv : LvR B G lv leaves) (h78 : x7 ≠ x8) (h8 : G.length ≤ x8)
    (hK : ∀ M C acc, KW G M C → C x8 = some (.var [.int .i64 a, acc, w2]) → SnM (SlF C G.length) [.int .i64 a, acc, w2] ⟨a, (leaves.take 70).map (fun t => t.take 300), path⟩ → J16_7 B (Cl B) n (pt x1) (pt x2) (pt x3) i0 (pt x8) M Q) :
    ∀ (f j : Nat) (acc : AV) (us : List AV) (M : Heap) (C : Nat → Option AObj), min leaves.length 70 = j + f → KW G M C → C x7 = some (.var [.int .i64 a, lv, pv]) → C x8 = some (.var [.int .i64 a, acc, w2]) → PathM (SlF C G.length) w2 path → AccA G M C G.length 1 acc (us.map fun u => [u]) → F2 (BsM (SlF C G.length)) us ((leaves.take j).map fun t => t.take 300) →
      L16_6 B (Cl B) n (pt x1) (pt x2) (pt x3) i0 (pt x7) (pt x8) (j : Int) M Q := by
  have hbig : maxBytes = 140737488355328 := rfl
  obtain ⟨vs, hvs, hfv⟩ := hv
  have hlen : lenOf lv = some leaves.length := by rw [hvs.len, List.length_map, hfv.1]
  intro f
  induction f with
  | zero =>
    intro j acc us M C hj k c7 c8 hw2 ac hf
    have fin : J16_7 B (Cl B) n (pt x1) (pt x2) (pt x3) i0 (pt x8) M Q := by
      obtain ⟨C', k', e', s⟩ := ac.done k
      have em : ∀ es v rows, SlF C G.length es v rows → SlF C' G.length es v rows := fun _ _ _ h => h.mono (Nat.le_refl _) fun j o _ hj => e' j _ hj
      refine hK M C' acc k' (e' _ _ c8) ⟨acc, w2, rfl, ⟨us, s, ?_⟩, em _ _ _ hw2⟩
      rw [take_min hj rfl]
      exact hf.mono fun _ _ h => em _ _ _ h
    refine L16_6_in (ACall.cle B table) (op_fldP ?_)
    rw [peekV (k.cs _ _ c7) (v := lv) rfl, ob_some]
    refine hvs.live _ ?_
    rw [hlen, ob_some]
    exact bs_dec (fun h1 => bs_dec (fun h2 => by omega) fun _ => fin) fun _ => fin
  | succ f ih =>
    intro j acc us M C hj k c7 c8 hw2 ac hf
    have hlt : j < leaves.length := by omega
    have hx : leaves[j]? = some leaves[j] := List.getElem?_eq_getElem hlt
    have htake : (leaves.take (j + 1)).map (fun t => t.take 300) = (leaves.take j).map (fun t => t.take 300) ++ [leaves[j].take 300] := by
      rw [List.take_add_one, hx, List.map_append]; rfl
    generalize leaves[j] = t at hx htake
    obtain ⟨u, hu, hbt⟩ := at_some hfv hx
    have hru : (vs.map fun u => [u])[j]? = some [u] := by simp [hu]
    have hvM : Sl B M 1 lv (vs.map fun u => [u]) := by obtain ⟨L, hL⟩ := k.pre; rw [hL]; exact hvs.pre
    have hbM : Bs B M u t := by obtain ⟨L, hL⟩ := k.pre; rw [hL]; exact hbt.pre
    refine L16_6_in (ACall.cle B table) (op_fldP ?_)
    rw [peekV (k.cs _ _ c7) (v := lv) rfl, ob_some]
    refine hvs.live _ ?_
    rw [hlen, ob_some]
    refine bs_yes (decide_eq_true (by omega)) (bs_yes (decide_eq_true (by omega)) (J16_5_in (op_fldP ?_)))
    rw [peekV (k.cs _ _ c8) (v := acc) rfl, ob_some]
    refine ac.live (op_fldP ?_)
    rw [peekV (k.cs _ _ c7) (v := lv) rfl, ob_some]
    refine hvs.live _ (op_idx hvM (in_some hru) ?_)
    rw [(hvM.el hru).peek0 (v := u) rfl, ob_some]
    refine Sl.live hbM _ (op_fldP ?_)
    rw [peekV (k.cs _ _ c7) (v := lv) rfl, ob_some]
    refine hvs.live _ (op_idx hvM (in_some hru) ?_)
    rw [(hvM.el hru).peek0 (v := u) rfl, ob_some]
    refine Sl.live hbM _ ?_
    rw [hbM.len, ob_some]
    refine op_pre (m := 300) (rows := t.map brw) hbM (by rw [List.length_map]) fun w hw => ?_
    rw [show layParts [] [] = some [] from rfl, ob_some]
    refine slK_in ?_
    have hM0 : G.length ≤ M.length := k.le
    -- what is copied is new
    refine op_copyQ (k0 := M.length) ((KW.zero (G := M)).grow [.arr []]) (by rw [get_app0]; rfl) (Nat.le_refl _) (Sl.pre hw) (by rw [List.length_take]; omega) fun v3 M3 D3 k3 _ s3 _ => ?_
    have k4 := k.join k3
    have d7 := join_old (C' := D3) k c7
    have d8 := join_old (C' := D3) k c8
    have ac4 := ac.join k3
    have em : ∀ es v rows, SlF C G.length es v rows → SlF (joinC C D3 M.length) G.length es v rows := fun _ _ _ h => SlF.joinL k h
    have hf4 : F2 (BsM (SlF (joinC C D3 M.length) G.length)) us ((leaves.take j).map fun t => t.take 300) := hf.mono fun _ _ h => em _ _ _ h
    have hw4 : PathM (SlF (joinC C D3 M.length) G.length) w2 path := em _ _ _ hw2
    have s4 : BsM (SlF (joinC C D3 M.length) G.length) v3 (t.take 300) := by rw [← List.map_take] at s3; exact SlF.joinR s3 hM0
    generalize joinC C D3 M.length = C4 at k4 d7 d8 ac4 hf4 hw4 s4
    refine ⟨by rw [peekV (k4.cs _ _ d8) (v := acc) rfl, ob_some]; exact ac4.live rfl, op_fldP rfl, ?_⟩
    rw [show layParts [.nils] [(0, 1, v3)] = some [v3] from lay_one (cells_isL (slF_isL s4)) rfl, ob_some]
    refine slK_in ?_
    have k5 := k4.grow [.arr [v3]]
    have ac5 := ac4.grow (L := [.arr [v3]])
    refine ⟨by rw [peekV (k5.cs _ _ d8) (v := acc) rfl, ob_some]; exact ac5.live rfl, op_fldP rfl, ?_⟩
    have hcl : (us.map fun u => [u]).length ≤ 70 := by rw [List.length_map, hf.len, List.length_map, List.length_take]; omega
    refine op_appA k5 ac5 k5.le (sl_one (row := [v3]) rfl) (by simp) (by simp only [List.length_singleton]; omega) fun v' M6 k6 ac6 _ => op_fldP ?_
    refine op_st (c := [.int .i64 a, acc, w2]) (vs := [v']) ac6.cells rfl (k6.cs _ _ d8) (by simp) ?_
    rw [show putAt [AV.int .i64 a, acc, w2] (0 + 1) [v'] = [.int .i64 a, v', w2] from rfl]
    have k7 := k6.set d8 h8 (.var [.int .i64 a, v', w2])
    refine J16_4_in ?_
    rw [w64 (by omega)]
    refine ih (j + 1) v' (us ++ [v3]) _ _ (by omega) k7 (by rw [updC_ne h78]; exact d7) updC_at (SlF.upd d8 _ _ _ hw4) ?_ ?_
    · rw [List.map_append]; exact ac6.set d8
    · rw [htake]
      exact F2.snoc (hf4.mono fun _ _ h => SlF.upd d8 _ _ _ h) (SlF.upd d8 _ _ _ s4)

/-- The spans. -/
theorem sns_loop (hT : Mono T) {e l p : Int} {w3 w4 w5 w7 v6 : AV} {sns : List Spn} (hc : c0[5 + 1]? = some v6) (hp : SnsR B G v6 sns)
    (hK : ∀ M C w6, Z16 G M C x1 x2 x3 c0 (cc9 e l p w3 w4 w5 w6 w7 .nils) (fun N => T N ∧ LE 3 SnM N w6 ((sns.take 6).map cutS)) → J16_17 B (Cl B) n (pt x1) (pt x2) (pt x3) M Q) :
    ∀ (f i : Nat) (acc : AV) (cs : List (List AV)) (M : Heap) (C : Nat → Option AObj), min sns.length 6 = i + f → Z16 G M C x1 x2 x3 c0 (cc9 e l p w3 w4 w5 acc w7 .nils) T → AccA G M C G.length 3 acc cs → F2 (SnM (SlF C G.length)) cs ((sns.take i).map cutS) → L16_12 B (Cl B) n (pt x1) (pt x2) (pt x3) (i : Int) M Q := by
  have hbig : maxBytes = 140737488355328 := rfl
  have hlen : lenOf v6 = some sns.length := by obtain ⟨rows, h1, h2⟩ := hp; rw [h1.len, h2.1]
  intro f
  induction f with
  | zero =>
    intro i acc cs M C hi z a hf
    have fin : J16_17 B (Cl B) n (pt x1) (pt x2) (pt x3) M Q := by
      obtain ⟨C', k', e', s⟩ := a.done z.k
      have z2 := z.keep hT k' e'
      refine hK M C' acc (z2.re ⟨z2.t, cs, s, ?_⟩)
      rw [take_min hi rfl]
      exact hf.mono fun _ _ h => h.mono fun _ _ _ h => h.mono (Nat.le_refl _) fun j o _ hj => e' j _ hj
    refine L16_12_in (ACall.cle B table) (op_fldP (op_fldP ?_))
    rw [z.p1 hc, ob_some]
    obtain ⟨rows, hr, _⟩ := hp
    refine hr.live _ ?_
    rw [hlen, ob_some]
    exact bs_dec (fun h1 => bs_dec (fun h2 => by omega) fun _ => fin) fun _ => fin
  | succ f ih =>
    intro i acc cs M C hi z a hf
    have hlt : i < sns.length := by omega
    have hx : sns[i]? = some sns[i] := List.getElem?_eq_getElem hlt
    have htake : (sns.take (i + 1)).map cutS = (sns.take i).map cutS ++ [cutS sns[i]] := by
      rw [List.take_add_one, hx, List.map_append]; rfl
    generalize sns[i] = sp at hx htake
    obtain ⟨rows, hr, hfr⟩ := hp
    obtain ⟨row, hrow, hpr⟩ := at_some hfr hx
    have hl3 : row.length = 3 := hr.1 row (List.mem_of_getElem? hrow)
    have hrM : Sl B M 3 v6 rows := by obtain ⟨L, hL⟩ := z.k.pre; rw [hL]; exact hr.pre
    refine L16_12_in (ACall.cle B table) (op_fldP (op_fldP ?_))
    rw [z.p1 hc, ob_some]
    refine hr.live _ ?_
    rw [hlen, ob_some]
    refine bs_yes (decide_eq_true (by omega)) (bs_yes (decide_eq_true (by omega)) (J16_11_in (op_fldP (op_fldP ?_))))
    rw [z.p1 hc, ob_some]
    refine hr.live _ (op_idx hrM (in_some hrow) ?_)
    rw [(hrM.el hrow).peekN hl3, ob_some]
    refine op_alloc (op_st_last rfl hl3 ?_)
    obtain ⟨lv, pv, rfl, hlv, hpv⟩ := hpr
    have hlvM : LvR B M lv sp.leaves := by obtain ⟨L, hL⟩ := z.k.pre; rw [hL]; exact hlv.pre
    have hpvM : PathR B (M ++ [.var [.int .i64 sp.frm, lv, pv]]) pv sp.path := by obtain ⟨L, hL⟩ := z.k.pre; rw [hL, List.append_assoc]; exact hpv.pre
    have k1 := (KW.zero (G := M)).add (.var [.int .i64 sp.frm, lv, pv])
    have c7 : updC (fun _ => none) M.length (.var [.int .i64 sp.frm, lv, pv]) M.length = some (.var [.int .i64 sp.frm, lv, pv]) := updC_at
    generalize updC (fun _ => none) M.length (.var [.int .i64 sp.frm, lv, pv]) = C1 at k1 c7
    generalize M ++ [AObj.var [.int .i64 sp.frm, lv, pv]] = M1 at k1 hpvM ⊢
    refine J16_9_in (op_fldP ?_)
    rw [peekV (k1.cs _ _ c7) (v := .int .i64 sp.frm) rfl, ob_some]
    refine int_i (op_fldP ?_)
    rw [peekV (k1.cs _ _ c7) (v := pv) rfl, ob_some]
    refine Sl.live hpvM _ (f37_ok hpvM fun v2 M2 D2 k2 s2 => live_slF s2 ?_)
    have k3 := k1.join k2
    have c73 := join_old (C' := D2) k1 c7
    have s3 := SlF.joinR (C := C1) (k0 := M.length) s2 k1.le
    generalize joinC C1 D2 M1.length = C3 at k3 c73 s3
    refine ⟨by rw [peekV (k3.cs _ _ c73) (v := .int .i64 sp.frm) rfl, ob_some]; exact int_i rfl, op_fldP rfl, ?_⟩
    rw [show layParts [(.int .i64 0), .nils, .nils] [(0, 1, .int .i64 sp.frm), (2, 1, v2)] = some [.int .i64 sp.frm, .nils, v2] from by
      obtain rfl | ⟨_, _, _, _, rfl⟩ := s3.isL <;> rfl, ob_some]
    refine op_alloc (op_st_last rfl rfl ?_)
    have k4 := k3.add (.var [.int .i64 sp.frm, .nils, v2])
    have c74 := keeps_add (o := .var [.int .i64 sp.frm, .nils, v2]) k3 _ _ c73
    have c84 : updC C3 M2.length (.var [.int .i64 sp.frm, .nils, v2]) M2.length = some (.var [.int .i64 sp.frm, .nils, v2]) := updC_at
    have s4 := SlF.add (o := .var [.int .i64 sp.frm, .nils, v2]) k3 _ _ _ s3
    have h78 : M.length ≠ M2.length := by have := k3.lt c73; omega
    have h8 : M.length ≤ M2.length := k3.le
    generalize updC C3 M2.length (.var [.int .i64 sp.frm, .nils, v2]) = C4 at k4 c74 c84 s4
    generalize M2.length = x8 at c84 h78 h8 ⊢
    refine J16_8_in ?_
    refine leaves_loop (i0 := (i : Int)) (leaves := sp.leaves) (path := sp.path.take 70) hlvM h78 h8 (fun M5 C5 lacc k5 c85 sm => ?_) (min sp.leaves.length 70) 0 .nils [] _ C4 (by omega) k4 c74 c84 s4 ⟨fun r hr => by simp at hr, .inl ⟨rfl, rfl⟩⟩ F2.nil
    have z5 := z.join hT k5
    have a5 := a.join k5
    have c8z : joinC C C5 M.length x8 = some (.var [.int .i64 sp.frm, lacc, v2]) := by rw [join_new h8]; exact c85
    have hf5 : F2 (SnM (SlF (joinC C C5 M.length) G.length)) cs ((sns.take i).map cutS) := hf.mono fun _ _ h => h.mono fun _ _ _ h => SlF.joinL z.k h
    have sm5 : SnM (SlF (joinC C C5 M.length) G.length) [.int .i64 sp.frm, lacc, v2] (cutS sp) := sm.mono fun _ _ _ h => SlF.joinR h z.k.le
    generalize joinC C C5 M.length = C6 at z5 a5 c8z hf5 sm5
    refine J16_7_in (op_fldP (op_fldP ?_))
    rw [z5.p3 (v := acc) rfl, ob_some]
    refine a5.live ?_
    rw [show peekN B M5 3 (pt x8) = some [.int .i64 sp.frm, lacc, v2] from peekVN (z5.k.cs _ _ c8z) rfl, ob_some, lay_row (n := 3) rfl rfl, ob_some]
    refine slK_in ?_
    have z6 := z5.grow [.arr [.int .i64 sp.frm, lacc, v2]]
    have a6 := a5.grow (L := [.arr [.int .i64 sp.frm, lacc, v2]])
    have hcl : cs.length ≤ 6 := by rw [hf.len, List.length_map, List.length_take]; omega
    refine op_appA z6.k a6 z6.k.le (sl_one (row := [.int .i64 sp.frm, lacc, v2]) rfl) (by simp) (by simp only [List.length_singleton]; omega) fun v' M7 k7 a7 _ => op_fldP (op_fldP ?_)
    have z7 := z6.keep hT k7 fun _ _ h => h
    refine z7.put hT a7.cells (by simp) (cc' := cc9 e l p w3 w4 w5 v' w7 .nils) rfl fun z8 => J16_10_in ?_
    rw [w64 (by omega)]
    refine ih (i + 1) v' _ _ _ (by omega) z8 (a7.set z7.c3) ?_
    rw [htake]
    exact F2.snoc (hf5.mono fun _ _ h => h.mono (SlF.upd z7.c3)) (sm5.mono (SlF.upd z7.c3))

/-- The rows. -/
theorem rws_loop (hT : Mono T) {e l p : Int} {w3 w4 w5 w6 w7 v8 : AV} {rws : List (List Ent)} (hc : c0[8]? = some v8) (hp : RowsR B G v8 rws)
    (hK : ∀ M C w8, Z16 G M C x1 x2 x3 c0 (cc9 e l p w3 w4 w5 w6 w7 w8) (fun N => T N ∧ LV EsM N w8 ((rws.take 6).map (cutEs 70))) → J16_16 B (Cl B) n (pt x2) (pt x3) M Q) :
    ∀ (f i : Nat) (acc : AV) (us : List AV) (M : Heap) (C : Nat → Option AObj), min rws.length 6 = i + f → Z16 G M C x1 x2 x3 c0 (cc9 e l p w3 w4 w5 w6 w7 acc) T → AccA G M C G.length 1 acc (us.map fun u => [u]) → F2 (EsM (SlF C G.length)) us ((rws.take i).map (cutEs 70)) → L16_15 B (Cl B) n (pt x1) (pt x2) (pt x3) (i : Int) M Q := by
  have hbig : maxBytes = 140737488355328 := rfl
  obtain ⟨vs, hvs, hfv⟩ := hp
  have hlen : lenOf v8 = some rws.length := by rw [hvs.len, List.length_map, hfv.1]
  intro f
  induction f with
  | zero =>
    intro i acc us M C hi z a hf
    have fin : J16_16 B (Cl B) n (pt x2) (pt x3) M Q := by
      obtain ⟨C', k', e', s⟩ := a.done z.k
      have z2 := z.keep hT k' e'
      refine hK M C' acc (z2.re ⟨z2.t, us, s, ?_⟩)
      rw [take_min hi rfl]
      exact hf.mono fun _ _ h => h.mono (Nat.le_refl _) fun j o _ hj => e' j _ hj
    refine L16_15_in (ACall.cle B table) (op_fldP ?_)
    rw [z.p1 (v := v8) (i := 0 + 8) hc, ob_some]
    refine hvs.live _ ?_
    rw [hlen, ob_some]
    exact bs_dec (fun h1 => bs_dec (fun h2 => by omega) fun _ => fin) fun _ => fin
  | succ f ih =>
    intro i acc us M C hi z a hf
    have hlt : i < rws.length := by omega
    have hx : rws[i]? = some rws[i] := List.getElem?_eq_getElem hlt
    have htake : (rws.take (i + 1)).map (cutEs 70) = (rws.take i).map (cutEs 70) ++ [cutEs 70 rws[i]] := by
      rw [List.take_add_one, hx, List.map_append]; rfl
    generalize rws[i] = es at hx htake
    obtain ⟨u, hu, hes⟩ := at_some hfv hx
    have hru : (vs.map fun u => [u])[i]? = some [u] := by simp [hu]
    have hvM : Sl B M 1 v8 (vs.map fun u => [u]) := by obtain ⟨L, hL⟩ := z.k.pre; rw [hL]; exact hvs.pre
    have heM : EsR B M u es := by obtain ⟨L, hL⟩ := z.k.pre; rw [hL]; exact hes.pre
    refine L16_15_in (ACall.cle B table) (op_fldP ?_)
    rw [z.p1 (v := v8) (i := 0 + 8) hc, ob_some]
    refine hvs.live _ ?_
    rw [hlen, ob_some]
    refine bs_yes (decide_eq_true (by omega)) (bs_yes (decide_eq_true (by omega)) (J16_14_in (op_fldP ?_)))
    rw [z.p3 (v := acc) (i := 0 + 8) rfl, ob_some]
    refine a.live (op_fldP ?_)
    rw [z.p1 (v := v8) (i := 0 + 8) hc, ob_some]
    refine hvs.live _ (op_idx hvM (in_some hru) ?_)
    rw [(hvM.el hru).peek0 (v := u) rfl, ob_some]
    refine Sl.live heM _ (f24_ok (m := 70) (by omega) heM fun v2 M2 D2 k2 s2 => live_slF s2 ?_)
    have z3 := z.join hT k2
    have a3 := a.join k2
    have hf3 : F2 (EsM (SlF (joinC C D2 M.length) G.length)) us ((rws.take i).map (cutEs 70)) := hf.mono fun _ _ h => SlF.joinL z.k h
    have s3 : EsM (SlF (joinC C D2 M.length) G.length) v2 (cutEs 70 es) := SlF.joinR s2 z.k.le
    generalize joinC C D2 M.length = C3 at z3 a3 hf3 s3
    refine ⟨by rw [z3.p3 (v := acc) (i := 0 + 8) rfl, ob_some]; exact a3.live rfl, op_fldP rfl, ?_⟩
    rw [show layParts [.nils] [(0, 1, v2)] = some [v2] from lay_one (cells_isL (slF_isL s3)) rfl, ob_some]
    refine slK_in ?_
    have z5 := z3.grow [.arr [v2]]
    have a5 := a3.grow (L := [.arr [v2]])
    refine ⟨by rw [z5.p3 (v := acc) (i := 0 + 8) rfl, ob_some]; exact a5.live rfl, op_fldP rfl, ?_⟩
    have hcl : (us.map fun u => [u]).length ≤ 6 := by rw [List.length_map, hf.len, List.length_map, List.length_take]; omega
    refine op_appA z5.k a5 z5.k.le (sl_one (row := [v2]) rfl) (by simp) (by simp only [List.length_singleton]; omega) fun v' M6 k6 a6 _ => op_fldP ?_
    have z6 := z5.keep hT k6 fun _ _ h => h
    refine z6.put hT a6.cells (by simp) (cc' := cc9 e l p w3 w4 w5 w6 w7 v') rfl fun z7 => J16_13_in ?_
    rw [w64 (by omega)]
    refine ih (i + 1) v' (us ++ [v2]) _ _ (by omega) z7 ?_ ?_
    · rw [List.map_append]; exact a6.set z6.c3
    · rw [htake]
      exact F2.snoc (hf3.mono fun _ _ h => SlF.upd z6.c3 _ _ _ h) (SlF.upd z6.c3 _ _ _ s3)
end
end Go.Am

/- The laws' cut copies: a reply. -/
namespace Go.Am
open Go

section
variable {B : Base} {n : Nat} {G M M' : Heap} {C C' : Nat → Option AObj} {Q : AV → Heap → Prop} {x1 x2 x3 : Nat} {c0 cc : List AV} {T : MM → Prop}

theorem mono_bs {w : AV} {s : List UInt8} (hT : Mono T) : Mono (fun N => T N ∧ BsM N w s) := fun N N' h ht => ⟨hT N N' h ht.1, h _ _ _ ht.2⟩
theorem mono_pts {w : AV} {l : List Pnt} (hT : Mono T) : Mono (fun N => T N ∧ LE 7 PtM N w l) := fun N N' h ht => ⟨hT N N' h ht.1, ht.2.mono h fun _ _ a => a.mono h⟩
theorem mono_sns {w : AV} {l : List Spn} (hT : Mono T) : Mono (fun N => T N ∧ LE 3 SnM N w l) := fun N N' h ht => ⟨hT N N' h ht.1, ht.2.mono h fun _ _ a => a.mono h⟩
theorem mono_t : Mono (fun _ => True) := fun _ _ _ _ => trivial

/-- A reply, cut. -/
theorem f16_ok {c : List AV} {r : Rpl} (hr : RpR B G c r) (hk : ∀ c' G' C', KW G G' C' → RpM (SlF C' G.length) c' (cutR r) → Q (.agg c') G') : Cl B 16 [.agg c] G Q := by
  obtain ⟨v3, v4, v5, v6, v7, v8, rfl, r3, r4, r5, r6, r7, r8⟩ := hr
  obtain ⟨er, la, ep, psum, pts, ssum, sns, sum, rows⟩ := r
  simp only at r3 r4 r5 r6 r7 r8
  refine f16_in fun n cl hn hcl hH hA => op_box rfl rfl (op_alloc ?_)
  subst hcl
  have k1 := (KW.zero (G := G)).add (.var [.int .i64 er, .int .i64 la, .int .i64 ep, v3, v4, v5, v6, v7, v8])
  have k2 := k1.add (.var (row3 0 0 0))
  have c1 := keeps_add (o := .var (row3 0 0 0)) k1 _ _ updC_at
  have hl2 : G.length ≤ (G ++ [AObj.var [.int .i64 er, .int .i64 la, .int .i64 ep, v3, v4, v5, v6, v7, v8]]).length := by simp
  have c2 : updC (updC (fun _ => none) G.length (.var [.int .i64 er, .int .i64 la, .int .i64 ep, v3, v4, v5, v6, v7, v8])) (G ++ [AObj.var [.int .i64 er, .int .i64 la, .int .i64 ep, v3, v4, v5, v6, v7, v8]]).length (.var (row3 0 0 0)) (G ++ [AObj.var [.int .i64 er, .int .i64 la, .int .i64 ep, v3, v4, v5, v6, v7, v8]]).length = some (.var (row3 0 0 0)) := updC_at
  have eG : G ++ [AObj.var [.int .i64 er, .int .i64 la, .int .i64 ep, v3, v4, v5, v6, v7, v8]] ++ [.var [.int .i64 0, .int .i64 0, .int .i64 0, .nils, .nils, .nils, .nils, .nils, .nils]] = G ++ [AObj.var [.int .i64 er, .int .i64 la, .int .i64 ep, v3, v4, v5, v6, v7, v8]] ++ [.var (row3 0 0 0)] := rfl
  rw [eG]
  generalize (G ++ [AObj.var [.int .i64 er, .int .i64 la, .int .i64 ep, v3, v4, v5, v6, v7, v8]]).length = x2 at k2 c1 c2 hl2 ⊢
  generalize updC (updC (fun _ => none) G.length (.var [.int .i64 er, .int .i64 la, .int .i64 ep, v3, v4, v5, v6, v7, v8])) x2 (.var (row3 0 0 0)) = C2 at k2 c1 c2
  generalize G ++ [AObj.var [.int .i64 er, .int .i64 la, .int .i64 ep, v3, v4, v5, v6, v7, v8]] ++ [AObj.var (row3 0 0 0)] = G2 at k2 ⊢
  have g1 := k2.cs _ _ c1
  refine J16_23_in (op_fldP ?_)
  rw [peekV g1 (v := .int .i64 er) rfl, ob_some]
  refine int_i (op_fldP ?_)
  rw [peekV g1 (v := .int .i64 la) rfl, ob_some]
  refine int_i (op_fldP ?_)
  rw [peekV g1 (v := .int .i64 ep) rfl, ob_some]
  refine int_i ?_
  rw [show layParts [(.int .i64 0), (.int .i64 0), (.int .i64 0), .nils, .nils, .nils, .nils, .nils, .nils] [(0, 1, .int .i64 er), (1, 1, .int .i64 la), (2, 1, .int .i64 ep)] = some (cc9 er la ep .nils .nils .nils .nils .nils .nils) from rfl, ob_some]
  refine op_alloc (op_st_last rfl rfl ?_)
  have hx2 := k2.lt c2
  have hx1 := k2.lt c1
  have z : Z16 G (G2 ++ [.var (cc9 er la ep .nils .nils .nils .nils .nils .nils)]) (updC C2 G2.length (.var (cc9 er la ep .nils .nils .nils .nils .nils .nils))) G.length x2 G2.length [.int .i64 er, .int .i64 la, .int .i64 ep, v3, v4, v5, v6, v7, v8] (cc9 er la ep .nils .nils .nils .nils .nils .nils) (fun _ => True) :=
    ⟨k2.add _, keeps_add k2 _ _ c1, keeps_add k2 _ _ c2, updC_at, hl2, k2.le, by omega, by omega, trivial⟩
  generalize updC C2 G2.length (.var (cc9 er la ep .nils .nils .nils .nils .nils .nils)) = C3 at z
  generalize G2.length = x3 at z ⊢
  generalize G2 ++ [AObj.var (cc9 er la ep .nils .nils .nils .nils .nils .nils)] = G3 at z ⊢
  refine J16_22_in ?_
  rw [show layParts [] [] = some [] from rfl, ob_some]
  refine text_put (i := 0 + 7) (off := 0 + 7) mono_t z r7 rfl (by simp) fun w7 M4 C4 z4 => J16_21_in ?_
  have m4 := mono_bs (w := w7) (s := sum.take 300) mono_t
  rw [show layParts [] [] = some [] from rfl, ob_some]
  refine text_put (i := 0 + 3 + 0) (off := 0 + 3 + 0) m4 z4 r3 rfl (by simp [putAt]) fun w3 M5 C5 z5 => J16_20_in ?_
  have m5 := mono_bs (w := w3) (s := psum.take 300) m4
  rw [show layParts [] [] = some [] from rfl, ob_some]
  refine text_put (i := 0 + 5 + 0) (off := 0 + 5 + 0) m5 z5 r5 rfl (by simp [putAt]) fun w5 M6 C6 z6 => J16_19_in ?_
  have m6 := mono_bs (w := w5) (s := ssum.take 300) m5
  refine pts_loop (w3 := w3) (w5 := w5) (w7 := w7) m6 (v4 := v4) rfl r4 (fun M7 C7 w4 z7 => J16_18_in ?_) (min pts.length 6) 0 .nils [] M6 C6 (by omega) z6 ⟨fun r hr => by simp at hr, .inl ⟨rfl, rfl⟩⟩ F2.nil
  have m7 := mono_pts (w := w4) (l := (pts.take 6).map cutP) m6
  refine sns_loop m7 (v6 := v6) rfl r6 (fun M8 C8 w6 z8 => J16_17_in ?_) (min sns.length 6) 0 .nils [] M7 C7 (by omega) z7 ⟨fun r hr => by simp at hr, .inl ⟨rfl, rfl⟩⟩ F2.nil
  have m8 := mono_sns (w := w6) (l := (sns.take 6).map cutS) m7
  refine rws_loop m8 (v8 := v8) rfl r8 (fun M9 C9 w8 z9 => J16_16_in ?_) (min rows.length 6) 0 .nils [] M8 C8 (by omega) z8 ⟨fun r hr => by simp at hr, .inl ⟨rfl, rfl⟩⟩ F2.nil
  rw [show peekN B M9 9 (pt x3) = some (cc9 er la ep w3 w4 w5 w6 w7 w8) from peekVN (z9.k.cs _ _ z9.c3) rfl, ob_some]
  refine op_st (c := row3 0 0 0) (vs := cc9 er la ep w3 w4 w5 w6 w7 w8) rfl rfl (z9.k.cs _ _ z9.c2) (by simp [row3]) ?_
  have k10 := z9.k.set z9.c2 z9.l2 (.var (cc9 er la ep w3 w4 w5 w6 w7 w8))
  rw [putAt_all (show (row3 0 0 0).length = (cc9 er la ep w3 w4 w5 w6 w7 w8).length from rfl), show peekN B (M9.set x2 (.var (cc9 er la ep w3 w4 w5 w6 w7 w8))) 9 (pt x2) = some (cc9 er la ep w3 w4 w5 w6 w7 w8) from peekVN (k10.cs _ _ updC_at) rfl, ob_some]
  obtain ⟨⟨⟨⟨⟨⟨_, t7⟩, t3⟩, t5⟩, t4⟩, t6⟩, t8⟩ := z9.t
  have hm : RpM (SlF C9 G.length) (cc9 er la ep w3 w4 w5 w6 w7 w8) (cutR ⟨er, la, ep, psum, pts, ssum, sns, sum, rows⟩) := ⟨w3, w4, w5, w6, w7, w8, rfl, t3, t4, t5, t6, t7, t8⟩
  exact tidy_none (hk _ _ _ k10 (hm.mono (SlF.upd z9.c2)))
end
end Go.Am

/- The law WireBack: it holds. -/
namespace Go.Am
open Go

/-! ### A request that was asked is read as it was -/
/-! ### Sizes -/
theorem len_take {α : Type} {l : List α} {m N : Nat} (h : m ≤ N) : (l.take m).length ≤ N := by rw [List.length_take]; omega
theorem cutO_ok {o : Opn} (h : OnIn o) : OnOk (cutO o) := ⟨h.1, len_take (by decide), len_take (by decide), fun d hd => h.2 d (List.mem_of_mem_take hd)⟩
theorem cutR_ok {r : Rpl} (h : RpIn r) : RpOk (cutR r) := by
  obtain ⟨h1, h2, h3, h4, h5⟩ := h
  refine ⟨h1, h2, h3, len_take (by decide), ⟨?_, fun p hp => ?_⟩, len_take (by decide), ⟨?_, fun x hx => ?_⟩, len_take (by decide), ⟨?_, fun l hl => ?_⟩⟩
  · simp only [cutR, List.length_map]; exact len_take (by decide)
  · obtain ⟨q, hq, rfl⟩ := List.mem_map.1 hp
    obtain ⟨a, b⟩ := h4 q (List.mem_of_mem_take hq)
    exact ⟨cutO_ok a, cutO_ok b⟩
  · simp only [cutR, List.length_map]; exact len_take (by decide)
  · obtain ⟨q, hq, rfl⟩ := List.mem_map.1 hx
    obtain ⟨a, b⟩ := h5 q (List.mem_of_mem_take hq)
    refine ⟨a, ?_, fun t ht => ?_, len_take (by decide), fun d hd => b d (List.mem_of_mem_take hd)⟩
    · simp only [cutS, List.length_map]; exact len_take (by decide)
    · obtain ⟨u, _, rfl⟩ := List.mem_map.1 ht
      exact len_take (by decide)
  · simp only [cutR, List.length_map]; exact len_take (by decide)
  · obtain ⟨q, hq, rfl⟩ := List.mem_map.1 hl
    simp only [cutEs, List.length_map]; exact len_take (by decide)
section
variable {B : Base} {n : Nat} {H G M : Heap} {Q : AV → Heap → Prop} {kind : Int} {x3 x5 : Nat} {qq : Rq} {rr : Rpl} {ev : AV} {c : List AV} {b d : AV} {e f : Int}

/-- Bytes and a code as they should be. -/
def AnsOk (v : AV) (e : Int) : Prop := e = 0 ∨ e = 1 ∧ v = .nils
/-- What Say answered. -/
def SayA (B : Base) (M : Heap) (kind : Int) (r : Rpl) (v : AV) (e : Int) : Prop := (sayW kind r = true ∧ v = .nils ∧ e = 1) ∨ (sayW kind r = false ∧ BsC B M v (sayF kind r) ∧ e = 0)
def AskA (B : Base) (M : Heap) (r : Rq) (v : AV) (e : Int) : Prop := (akW r = true ∧ v = .nils ∧ e = 1) ∨ (akW r = false ∧ BsC B M v (akF r) ∧ e = 0)
theorem BsC.pre {L : Heap} {s : List UInt8} (h : BsC B M b s) : BsC B (M ++ L) b s := ⟨h.bs.pre, h.cap⟩
theorem SayA.pre {L : Heap} (h : SayA B M kind rr b e) : SayA B (M ++ L) kind rr b e := h.imp id fun ⟨x, y, z⟩ => ⟨x, y.pre, z⟩
theorem AskA.pre {L : Heap} (h : AskA B M qq b e) : AskA B (M ++ L) qq b e := h.imp id fun ⟨x, y, z⟩ => ⟨x, y.pre, z⟩
theorem SayA.ok (h : SayA B M kind rr b e) : AnsOk b e := by
  obtain ⟨_, h1, h2⟩ | ⟨_, _, h2⟩ := h
  · exact .inr ⟨h2, h1⟩
  · exact .inl h2
theorem AskA.ok (h : AskA B M qq b e) : AnsOk b e := by
  obtain ⟨_, h1, h2⟩ | ⟨_, _, h2⟩ := h
  · exact .inr ⟨h2, h1⟩
  · exact .inl h2
end
end Go.Am
