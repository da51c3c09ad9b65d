/- What the translated operations do in the model, continued: append, copy. -/
import Derived.Test.YtonfcbadaebjnaaAm8
namespace Go.Am
open Go Go.RowKit

section
variable {P : Program} {B : Base} {W0 : Bw} {m : Plcs} {H : Heap} {w : World} {K : AV → Heap → Prop} {env : Env} {a : Act}

/-- A new row, of which the first cells are told. -/
theorem Rel.newFront (R : Rel W0 m H w) (c : List AV) (xs : Array Value) (h1 : Ones c) (hle : c.length ≤ xs.size) (hc : VRL H.length m c (xs.toList.take c.length)) (e : TypeId) :
    Rel W0 (upd m H.length ⟨w.heap.size, 0, xs.size⟩) (H ++ [.arr c]) (w.alloc (.cells xs e)) := by
  have hE := Ext.upd m H ⟨w.heap.size, 0, xs.size⟩ (.arr c)
  refine R.new _ _ rfl _ ?_
  show CellsR _ _ _ _ _ _ _
  rw [CellsR, upd_same]
  refine ⟨R.below.fresh, xs, e, (0, 0), World.heap_alloc_new _ _, .inl rfl, by simp only [Nat.zero_add]; omega, Nat.le_refl _, h1, fun j u hu => ?_⟩
  obtain ⟨x, hx, hr⟩ := VRL_get hc hu
  refine ⟨x, ?_, VR_mono (Nat.le_succ _) hE.same _ _ hr⟩
  have hj : j < c.length := by
    rcases Nat.lt_or_ge j c.length with h' | h'
    · exact h'
    · rw [List.getElem?_eq_none h'] at hu; cases hu
  rw [List.getElem?_take_of_lt hj, Array.getElem?_toList] at hx
  simpa using hx

theorem Ones_append {c c' : List AV} (h : Ones c) (h' : Ones c') : Ones (c ++ c') := fun v hv => by
  rcases List.mem_append.1 hv with h1 | h1
  · exact h v h1
  · exact h' v h1

/-- What grows into a new row. -/
theorem out_ok (R : Rel W0 m H w) {t u ty e : TypeId} {i : TypeInfo} {z : Value} (ht : P.underlying t = some (.slice e)) (hi : P.info? e = some i) (hz : i.zero = some z) (hzs : z.cells.size = i.size) {x : Value} {k : Nat} {xs : List Value} (S : Src P w u x i.size k xs) (hxl : xs.length = k * i.size)
    {new : List AV} (hn1 : Ones new) (hn2 : VRL H.length m new xs) (b : Option Addr) (n c : Nat) (hfit : c < n + k)
    {olds : List Value} {old : List AV} (ho1 : Ones old) (ho2 : VRL H.length m old olds) (hol : olds.length = n * i.size) (hold : (Builtin.firstCells i.size n (.slice b n c)).run P w.drew = .ok olds.toArray w.drew)
    (h48 : (n + k) * i.bytes ≤ maxBytes) (h63 : n + k ≤ maxInt) (hb : 0 < i.bytes)
    (hk : K (.slice (.new H.length) 0 (n + k) i.size none) (H ++ [.arr (old ++ new)])) :
    VOk P W0 m H w K (Builtin.append_ #[t, u] ty #[.slice b n c, x]) := by
  have hrun := run_append_out (P := P) (w := w) (ty := ty) ht hi hz S b n c hfit olds hold h63 h48 hb
  obtain ⟨cap, hcap⟩ : ∃ cap, cap = grownCap w (n + k) c e := ⟨_, rfl⟩
  rw [← hcap] at hrun
  have hge : n + k ≤ cap := by rw [hcap]; exact grownCap_ge _ _ _ _
  have hl1 : old.length = n * i.size := by rw [← VRL_len ho2, hol]
  have hl2 : new.length = k * i.size := by rw [← VRL_len hn2, hxl]
  have hsz : (olds.toArray ++ xs.toArray ++ Builtin.zeroCells z.cells (cap - (n + k))).size = cap * i.size := by
    simp only [Array.size_append, List.size_toArray, size_zeroCells, hzs, hol, hxl, ← Nat.add_mul]
    congr 1; omega
  have hle : (old ++ new).length ≤ cap * i.size := by
    rw [List.length_append, hl1, hl2, ← Nat.add_mul]; exact Nat.mul_le_mul_right _ hge
  have R' := R.drew.newFront (old ++ new) (olds.toArray ++ xs.toArray ++ Builtin.zeroCells z.cells (cap - (n + k))) (Ones_append ho1 hn1) (by rw [hsz]; exact hle) (by
    rw [Array.toList_append, Array.toList_append]
    have hlen : (old ++ new).length = (olds ++ xs).length := by simp [hl1, hl2, hol, hxl]
    rw [hlen, List.take_left' (by simp)]
    exact VRL_append ho2 hn2) e
  refine ⟨_, _, _, _, _, hk, hrun, Ext.upd m H _ _, R', ?_⟩
  simp only [VR, Id.ok]
  refine ⟨by simp, _, _, rfl, hge, ?_, rfl, ?_, ?_, H.length, rfl, ?_⟩
  · simp [Id.blk]
  · simp [Id.beg]
  · simp [Id.beg]
  · simp only [upd_same, hsz]; omega

theorem Src.drop {u : TypeId} {x : Value} {es k : Nat} {xs : List Value} (S : Src P w u x es k xs) : Src P w u x es k xs := S

/-- What grows in its place. -/
theorem in_ok (R : Rel W0 m H w) {t u ty e : TypeId} {inf : TypeInfo} (ht : P.underlying t = some (.slice e)) (hi : P.info? e = some inf) {x : Value} {k : Nat} {xs : List Value} (S : Src P w u x inf.size k xs) (hxl : xs.length = k * inf.size)
    {new : List AV} (hn1 : Ones new) (hn2 : VRL H.length m new xs) {i : Nat} {off len c : Nat} {a' : Addr} (hsl : SlR m (.new i) off len inf.size none a' c) (hfit : len + k ≤ c)
    {old : List AV} (hold : cellsAt B H (.new i) off (len * inf.size) = some old)
    (hk : K (.slice (.new H.length) 0 (len + k) inf.size none) (H.set i .gone ++ [.arr (old ++ new)])) :
    VOk P W0 m H w K (Builtin.append_ #[t, u] ty #[.slice (some a') len c, x]) := by
  obtain ⟨es, hes⟩ : ∃ es, es = inf.size := ⟨_, rfl⟩
  rw [← hes] at S hxl hsl hold hk
  obtain ⟨hle, g1, g2, g3, g4, k1, g5, g6⟩ := hsl
  obtain rfl : i = k1 := by injection g5
  simp only [Id.blk, Id.beg] at g1 g3 g4
  obtain ⟨cs, hcs, hcl, rfl⟩ := cellsAt_iff.1 hold
  have hcell : ∃ o b, H[i]? = some o ∧ o.live = true ∧ CellsR H.length W0.kept m w i b cs := by
    simp only [cellsOf] at hcs
    split at hcs
    · rename_i c' hc; cases hcs; exact ⟨_, true, hc, rfl, R.objs i _ hc⟩
    · rename_i c' hc; cases hcs; exact ⟨_, false, hc, rfl, R.objs i _ hc⟩
    · cases hcs
  obtain ⟨o, b, ho, hlive, hB0, arr, e0, f, harr, hf, hx1, hx2, hon, hval⟩ := hcell
  have hf' : frOk false f arr.size := by rcases hf with h | ⟨_, h⟩; exact .inl h; exact .inr ⟨rfl, h⟩
  have hi0 : i < H.length := by
    rcases Nat.lt_or_ge i H.length with h' | h'
    · exact h'
    · simp [List.getElem?_eq_none h'] at ho
  have hmul : (len + k) * es ≤ c * es := Nat.mul_le_mul_right _ hfit
  rw [Nat.add_mul] at hmul
  have hn1' : ∀ y, y ∈ xs → y.oneCell' = true := fun y hy => by
    obtain ⟨j, hj⟩ := List.getElem?_of_mem hy
    have hl := VRL_len hn2
    have : j < new.length := by rw [← hl]; rcases Nat.lt_or_ge j xs.length with h' | h'; exact h'; rw [List.getElem?_eq_none h'] at hj; cases hj
    obtain ⟨y', hy', hr⟩ := VRL_get hn2 (List.getElem?_eq_getElem this)
    rw [hj] at hy'; cases hy'
    exact VR_one hr (hn1 _ (List.getElem_mem this))
  obtain ⟨w', c', q1, q2, q3, q4, q5, q6, q7, q8, q9, q10⟩ := storeCells_block P (m i).blk (a'.off + len * es) xs 0 w arr e0 f harr hf' (by omega) hn1'
  have hadd : a'.add (len * inf.size) = ⟨(m i).blk, a'.off + len * es, none⟩ := by
    rw [← hes]
    unfold Addr.add
    split
    · rename_i h0
      cases a'; simp only at g1 g2 ⊢; rw [h0, g1, g2]; rfl
    · rw [g1]
  have hrun := run_append_in (P := P) (w := w) (ty := ty) ht hi (hes ▸ S) (some a') len c hfit
  simp only [hadd, q1, Result.andThen_ok] at hrun
  have hlen : (cs.drop off).length ≥ len * es := by simp; omega
  have hol : ((cs.drop off).take (len * es)).length = len * es := by simp; omega
  have hE : Ext m (Am.upd m H.length ⟨(m i).blk, a'.off, (m i).ext⟩) H (H.set i .gone ++ [.arr ((cs.drop off).take (len * es) ++ new)]) :=
    ⟨by simp, fun j hj => (upd_other m _ (by omega)).symm⟩
  have hsetlen : (H.set i AObj.gone).length = H.length := List.length_set
  have R' : Rel W0 (Am.upd m H.length ⟨(m i).blk, a'.off, (m i).ext⟩) (H.set i .gone ++ [.arr ((cs.drop off).take (len * es) ++ new)]) w' := by
    have back : ∀ {l : Nat} {o' : AObj}, (H.set i .gone)[l]? = some o' → o'.live = true → l ≠ i ∧ H[l]? = some o' := fun {l} {o'} hl hv => by
      rw [List.getElem?_set] at hl
      by_cases e1 : i = l
      · subst e1
        rw [if_pos rfl] at hl
        split at hl
        · injection hl with hl; subst hl; simp [AObj.live] at hv
        · exact absurd hi0 ‹_›
      · rw [if_neg e1] at hl; exact ⟨fun e => e1 e.symm, hl⟩
    have one : ∀ {q : Nat} {z : AObj}, ¬ q < H.length → ([AObj.arr ((cs.drop off).take (len * es) ++ new)] : List AObj)[q - H.length]? = some z → q = H.length ∧ z = AObj.arr ((cs.drop off).take (len * es) ++ new) := fun {q} {z} hn hz => by
      rcases Nat.eq_zero_or_pos (q - H.length) with h | h
      · rw [h] at hz; simp at hz; exact ⟨by omega, hz.symm⟩
      · rw [List.getElem?_eq_none (by simp; omega)] at hz; cases hz
    refine ⟨?_, fun l o' hl => ?_, fun l l' o1 o2 hl1 hl2 ho1 ho2 hne => ?_⟩
    · refine R.below.trans q7 q8 q9 (by omega) fun j hj => q5 j (fun e => hB0 (by rw [← e]; exact hj))
    · have hL : (H.set i AObj.gone ++ [AObj.arr ((cs.drop off).take (len * es) ++ new)]).length = H.length + 1 := by simp
      rw [hL]
      rw [List.getElem?_append, hsetlen] at hl
      split at hl
      · rename_i hlt
        by_cases hv : o'.live = true
        · obtain ⟨hne, hl'⟩ := back hl hv
          refine ObjR_mono (Nat.le_succ _) hlt hE.same (fun _ => q5 _ ?_) (R.objs l o' hl')
          exact R.inj l i o' o hl' ho hv hlive hne
        · cases o' <;> first | trivial | simp [AObj.live] at hv
      · rename_i hge
        obtain ⟨rfl, rfl⟩ := one hge hl
        show CellsR _ _ _ _ _ _ _
        rw [CellsR, upd_same]
        refine ⟨hB0, c', e0, f, q2, by rw [q3]; exact hf', ?_, by rw [q3]; exact hx2, Ones_append (fun v hv => hon v (List.mem_of_mem_drop (List.mem_of_mem_take hv))) hn1, fun j v hv => ?_⟩
        · rw [List.length_append, hol, ← VRL_len hn2, hxl]; simp only; omega
        · rw [List.getElem?_append] at hv
          split at hv
          · rename_i hj
            rw [hol] at hj
            have hpos : 0 < len := by rcases Nat.eq_zero_or_pos len with h | h; subst h; simp at hj; exact h
            rw [List.getElem?_take_of_lt hj, List.getElem?_drop] at hv
            obtain ⟨y, hy, hr⟩ := hval _ _ hv
            refine ⟨y, ?_, VR_mono (Nat.le_succ _) hE.same _ _ hr⟩
            simp only
            rw [q10 _ (by omega), g4 hpos, ← hy]
            congr 1; omega
          · rename_i hj
            rw [hol] at hj hv
            obtain ⟨y, hy, hr⟩ := VRL_get hn2 hv
            refine ⟨y, ?_, VR_mono (Nat.le_succ _) hE.same _ _ hr⟩
            have := q4 _ _ hy
            simp only
            rw [← this]
            congr 1; omega
    · rw [List.getElem?_append, hsetlen] at hl1 hl2
      split at hl1
      · rename_i hlt1
        obtain ⟨hne1, hl1'⟩ := back hl1 ho1
        split at hl2
        · rename_i hlt2
          obtain ⟨hne2, hl2'⟩ := back hl2 ho2
          rw [upd_other m _ (by omega), upd_other m _ (by omega)]
          exact R.inj l l' o1 o2 hl1' hl2' ho1 ho2 hne
        · obtain ⟨rfl, _⟩ := one ‹_› hl2
          rw [upd_other m _ (by omega), upd_same]
          exact R.inj l i o1 o hl1' ho ho1 hlive hne1
      · obtain ⟨rfl, _⟩ := one ‹_› hl1
        split at hl2
        · rename_i hlt2
          obtain ⟨hne2, hl2'⟩ := back hl2 ho2
          rw [upd_same, upd_other m _ (by omega)]
          exact fun he => R.inj l' i o2 o hl2' ho ho2 hlive hne2 he.symm
        · obtain ⟨rfl, _⟩ := one ‹_› hl2
          exact absurd rfl hne
  refine ⟨_, _, _, _, _, hk, hrun, hE, R', ?_⟩
  simp only [VR, Id.ok]
  refine ⟨by simp, _, _, rfl, hfit, ?_, g2, ?_, ?_, H.length, rfl, ?_⟩
  · simp [Id.blk, g1]
  · simp [Id.beg]
  · simp [Id.beg]
  · simp only [upd_same]; first | exact g6 | (rw [← hes]; exact g6)

theorem append_ok (hB : BaseOk B W0) (R : Rel W0 m H w) {t u ty e : TypeId} {inf : TypeInfo} {z : Value} (ht : P.underlying t = some (.slice e)) (hi : P.info? e = some inf) (hz : inf.zero = some z) (hzs : z.cells.size = inf.size) (hb : 0 < inf.bytes) {x : Value} {k : Nat} {xs : List Value} (S : Src P w u x inf.size k xs) (hxl : xs.length = k * inf.size)
    {new : List AV} (hn1 : Ones new) (hn2 : VRL H.length m new xs) {v : AV} {s : Value} (hv : VR H.length m v s)
    (h : ob (appendTo B H inf.size inf.bytes v k new) fun r => K r.1 r.2) : VOk P W0 m H w K (Builtin.append_ #[t, u] ty #[s, x]) := by
  have small : ∀ {q : Nat}, q * inf.bytes ≤ maxBytes → q ≤ maxInt := fun {q} hq => by
    have : q * 1 ≤ q * inf.bytes := Nat.mul_le_mul_left _ hb
    unfold maxBytes at hq; unfold maxInt; omega
  obtain ⟨r, hr, hk⟩ := ob_iff.1 h
  unfold appendTo at hr
  split at hr
  · rename_i h0
    subst h0
    have hx0 : xs = [] := List.eq_nil_of_length_eq_zero (by omega)
    subst hx0
    cases v <;> try (simp at hr; done)
    case nils =>
      cases hr
      simp only [VR] at hv; subst hv
      exact VOk.same (x := .slice none 0 0) R hk (by simpa using run_append_in (P := P) (w := w) (ty := ty) ht hi S none 0 0 (Nat.le_refl _)) (by simp only [VR])
    case slice o off len es cap =>
      cases hr
      simp only [VR] at hv
      obtain ⟨hok, a', c, rfl, hsl⟩ := hv
      have := run_append_in (P := P) (w := w) (ty := ty) ht hi S (some a') len c hsl.1
      exact VOk.same (x := .slice (some a') len c) R hk (by simpa [storeCells] using this) (by simp only [VR]; exact ⟨hok, _, _, rfl, hsl⟩)
  · rename_i hk0
    have hkp : 0 < k := Nat.pos_of_ne_zero hk0
    cases v <;> try (simp at hr; done)
    case nils =>
      change (if k * inf.bytes ≤ maxBytes then some (AV.slice (.new H.length) 0 k inf.size none, H ++ [AObj.arr new]) else none) = some r at hr
      split at hr
      · rename_i hbt
        cases hr
        simp only [VR] at hv; subst hv
        have := out_ok (K := K) R (ty := ty) ht hi hz hzs S hxl hn1 hn2 none 0 0 (by omega) (olds := []) (old := []) (fun v hv => by simp at hv) (by simp [VRL]) (by simp) (run_firstCells_none _ _ _ _ _) (by simpa using hbt) (by rw [Nat.zero_add]; exact small hbt) hb (by simpa using hk)
        exact this
      · cases hr
    case slice o off len es cap =>
      simp only [VR] at hv
      obtain ⟨hok, a', c, rfl, hsl⟩ := hv
      have outCase : ∀ {H' : Heap} (RR : Rel W0 m H' w) (hlen : H'.length = H.length) (old : List AV), cellsAt B H o off (len * inf.size) = some old → es = inf.size → (len + k) * inf.bytes ≤ maxBytes → c < len + k → K (.slice (.new H'.length) 0 (len + k) inf.size none) (H' ++ [.arr (old ++ new)]) →
          ∃ v' H'' m' x' w', K v' H'' ∧ (Builtin.append_ #[t, u] ty #[.slice (some a') len c, x]).run P w = .ok x' w' ∧ Ext m m' H' H'' ∧ Rel W0 m' H'' w' ∧ VR H''.length m' v' x' := fun {H'} RR hlen old hold hes hbt hlt hk' => by
        subst hes
        have hvv : VR H.length m (.slice o off len inf.size cap) (.slice (some a') len c) := by simp only [VR]; exact ⟨hok, _, _, rfl, hsl⟩
        rcases elems_ok hB R hvv (c := old) (by simpa only [elemsOf] using hold) with ⟨h', _⟩ | ⟨a2, len2, cap2, es2, e1, e2, ys, y1, y2, y3, y4, y5, o2, off2, cp2, e3⟩
        · cases h'
        · cases e1; cases e3
          exact out_ok (K := K) RR (ty := ty) ht hi hz hzs S hxl hn1 (by rw [hlen]; exact hn2) (some a') len c hlt y4 (by rw [hlen]; exact y3) y1 (run_firstCells_some _ _ _ _ _ _ _ y1 (fun j y hy => y5 j y hy)) hbt (small hbt) hb hk'
      cases cap with
      | some c' =>
        obtain ⟨hle, rfl, hadr⟩ := hsl
        try simp only at hr
        split at hr
        · rename_i hes
          subst hes
          split at hr
          · rename_i hfit
            obtain ⟨H', hp, rfl⟩ := Option.map_eq_some_iff.1 hr
            have ha := hadr (by omega)
            subst ha
            obtain ⟨w', hw', R'⟩ := R.pokes (P := P) (i := off + len * inf.size) (j := 0) hp hn1 hn2
            have hrun := run_append_in (P := P) (w := w) (ty := ty) ht hi S (some (adr m o off)) len c hfit
            simp only [adr_add] at hrun
            rw [hw'] at hrun
            simp only [Result.andThen_ok] at hrun
            have hl := pokeAt_length hp
            exact ⟨_, _, m, _, _, hk, hrun, ⟨by rw [hl]; exact Nat.le_refl _, fun _ _ => rfl⟩, R', by simp only [VR]; exact ⟨by rw [hl]; exact hok, _, _, rfl, hfit, rfl, fun _ => rfl⟩⟩
          · split at hr
            · rename_i hbt
              obtain ⟨old, ho, rfl⟩ := Option.map_eq_some_iff.1 hr
              exact outCase R rfl old ho rfl hbt (by omega) hk
            · cases hr
        · cases hr
      | none =>
        have hsl' := hsl
        obtain ⟨hle, g1, g2, g3, g4, k0, rfl, g6⟩ := hsl
        try simp only at hr
        split at hr
        · rename_i hes
          subst hes
          split at hr
          · rename_i hbt
            obtain ⟨old, ho, rfl⟩ := Option.map_eq_some_iff.1 hr
            by_cases hfit : len + k ≤ c
            · exact in_ok R ht hi S hxl hn1 hn2 hsl' hfit ho hk
            · have hl : (H.set k0 AObj.gone).length = H.length := List.length_set
              obtain ⟨v', H'', m', x', w', r1, r2, r3, r4, r5⟩ := outCase (R.drop k0) hl old ho rfl hbt (by omega) (by rw [hl]; exact hk)
              exact ⟨v', H'', m', x', w', r1, r2, ⟨by rw [← hl]; exact r3.len, fun j hj => r3.same j (by rw [hl]; exact hj)⟩, r4, r5⟩
          · cases hr
        · cases hr

theorem src_slice (hB : BaseOk B W0) (R : Rel W0 m H w) {u e : TypeId} (hu : P.underlying u = some (.slice e)) {v : AV} {x : Value} (hv : VR H.length m v x) {k : Nat} (hk : lenOf v = some k) {new : List AV} (hn : elemsOf B H v = some new) {es : Nat} (hl : new.length = k * es) :
    ∃ xs, Src P w u x es k xs ∧ xs.length = k * es ∧ Ones new ∧ VRL H.length m new xs := by
  rcases elems_ok hB R hv hn with ⟨rfl, rfl, rfl⟩ | ⟨a', len, cap, es', rfl, h2, xs, h3, h4, h5, h6, h7, _⟩
  · simp only [lenOf, Option.some.injEq] at hk; subst hk
    exact ⟨[], ⟨.inl ⟨e, hu⟩, fun _ => by simp [Builtin.lenOf], run_firstCells_none _ _ _ _ _, run_firstCells_none _ _ _ _ _⟩, by simp, fun v hv => by simp at hv, by simp [VRL]⟩
  · rw [hk] at h2; cases h2
    have hxl : xs.length = k * es := by rw [VRL_len h5, hl]
    exact ⟨xs, ⟨.inl ⟨e, hu⟩, fun _ => by simp [Builtin.lenOf], run_firstCells_some _ _ _ _ _ _ _ hxl h7, run_firstCells_some _ _ _ _ _ _ _ hxl h7⟩, hxl, h6, h5⟩

theorem ok_append (hB : BaseOk B W0) (E : EnvR H.length m env a) (R : Rel W0 m H w) {t u ty e e2 : TypeId} {es bytes : Nat} {z : Value} (ht : elemOfSlice P t = some e) (hi : infoOf P e = some (es, bytes)) (hz : (P.info? e).bind (·.zero) = some z) (hu : P.underlying u = some (.slice e2)) (hpos : 0 < es) (hb : 0 < bytes) (hzs : z.cells.size = es)
    {s x : Operand} {s' x' : Opd} (hs : opd s = some s') (hx : opd x = some x')
    (h : opK env s' fun v => opK env x' fun u => ob (lenOf u) fun k => ob (elemsOf B H u) fun new => if new.length = k * es then ob (appendTo B H es bytes v k new) fun r => K r.1 r.2 else False) :
    VOk P W0 m H w K (Builtin.append_ #[t, u] ty #[a.eval s, a.eval x]) := by
  obtain ⟨v, ha, hv⟩ := opd_ok E hs h
  obtain ⟨q, hb', hq⟩ := opd_ok E hx ha
  obtain ⟨k, hk, hc⟩ := ob_iff.1 hb'
  obtain ⟨new, hn, hd⟩ := ob_iff.1 hc
  obtain ⟨inf, hi1, hi2, hi3⟩ := infoOf_some hi
  subst hi2; subst hi3
  split at hd
  · rename_i hl
    obtain ⟨xs, S, hxl, hn1, hn2⟩ := src_slice (P := P) hB R hu hq hk hn hl
    exact append_ok hB R (elemOfSlice_some ht) hi1 (by simpa [hi1] using hz) hzs hb S hxl hn1 hn2 hv hd
  · exact hd.elim

theorem ok_appendS (hB : BaseOk B W0) (E : EnvR H.length m env a) (R : Rel W0 m H w) {t u ty e : TypeId} {z : Value} (ht : elemOfSlice P t = some e) (hi : infoOf P e = some (1, 1)) (hz : (P.info? e).bind (·.zero) = some z) (hu : P.underlying u = some .string) (hzs : z.cells.size = 1)
    {s x : Operand} {s' x' : Opd} (hs : opd s = some s') (hx : opd x = some x')
    (h : opK env s' fun v => opK env x' fun u => pStr u fun t => ob (appendTo B H 1 1 v t.length (cellsOfBytes t)) fun r => K r.1 r.2) :
    VOk P W0 m H w K (Builtin.append_ #[t, u] ty #[a.eval s, a.eval x]) := by
  obtain ⟨v, ha, hv⟩ := opd_ok E hs h
  obtain ⟨q, hb', hq⟩ := opd_ok E hx ha
  obtain ⟨str, rfl, hd⟩ := pStr_iff.1 hb'
  obtain ⟨inf, hi1, hi2, hi3⟩ := infoOf_some hi
  simp only [VR] at hq; rw [hq]
  have hfc : ∀ w', (Builtin.firstCells inf.size str.length (.string ⟨str.toArray⟩)).run P w' = .ok (str.map fun b : UInt8 => Value.int .u8 b.toNat).toArray w' := fun w' => by
    simp only [Builtin.firstCells, Sem.run_pure]
    congr 1
    have : (ByteArray.mk str.toArray).extract 0 str.length = ByteArray.mk str.toArray := by rw [mk_extract]; simp
    rw [this]
    apply Array.ext'
    simp
  have S : Src P w u (.string ⟨str.toArray⟩) inf.size str.length (str.map fun b : UInt8 => Value.int .u8 b.toNat) :=
    ⟨.inr hu, fun _ => by simp [Builtin.lenOf, mk_size], hfc _, hfc _⟩
  exact append_ok hB R (elemOfSlice_some ht) hi1 (by simpa [hi1] using hz) (by omega) (by omega) S (by simp [hi2]) (Ones_bytes str) (VRL_bytes str) hv (by rw [hi2, hi3]; exact hd)

end

end Go.Am
