/- What the translated operations do in the model, continued: built values, numbers, texts, places. -/
import Derived.Test.YtonfcbadaebjnaaAm4
import Derived.Lib.Strings
namespace Go.Am
open Go Go.RowKit

section
variable {P : Program} {B : Base} {W0 : Bw} {m : Plcs} {H : Heap} {w : World} {K : AV → Heap → Prop} {env : Env} {a : Act}

theorem mapM_fields (P : Program) (w : World) : ∀ (fs : Array Field), allInfo P fs = true →
    (fs.mapM fun f => do pure (f.offset, ← sizeOf f.type) : Sem (Array (Nat × Nat))).run P w = .ok (fs.map fun f => (f.offset, P.cellsOf f.type)) w := by
  intro fs h
  have key : ∀ (l : List Field), (l.all fun f => (P.info? f.type).isSome) = true →
      (l.mapM fun f => do pure (f.offset, ← sizeOf f.type) : Sem (List (Nat × Nat))).run P w = .ok (l.map fun f => (f.offset, P.cellsOf f.type)) w := by
    intro l
    induction l with
    | nil => intro _; simp
    | cons f l ih =>
      intro h
      simp only [List.all_cons, Bool.and_eq_true] at h
      obtain ⟨h1, h2⟩ := h
      obtain ⟨i, hi⟩ := Option.isSome_iff_exists.1 h1
      rw [List.mapM_cons]
      simp only [Sem.run_bind, run_size hi, Result.andThen_ok, Sem.run_pure, ih h2]
      simp [Program.cellsOf, hi]
  have := key fs.toList (by simpa [allInfo] using h)
  rw [Array.mapM_eq_mapM_toList]
  simp only [Sem.run_map, this, Result.andThen_ok]
  congr 1
  apply Array.ext'
  simp

theorem ok_build (E : EnvR H.length m env a) (R : Rel W0 m H w) {t : TypeId} {z : List AV} {ps : Array (Nat × Operand)} {l : List (Nat × Nat × Opd)} (hz : zeroOf P t = some z)
    (ht : (∃ fs, P.underlying t = some (.struct fs) ∧ allInfo P fs = true ∧ zipParts (fieldPlaces P fs) ps.toList = some l) ∨
      ∃ k e n b, P.underlying t = some (.array k e) ∧ infoOf P e = some (n, b) ∧ zipParts (fun i => some (i * n, n)) ps.toList = some l)
    (h : partsK env l fun vs => ob (layParts z vs) fun c => K (.agg c) H) : VOk P W0 m H w K (Instr.build t (ps.map fun (i, x) => (i, a.eval x))) := by
  obtain ⟨zv, hzv, h2, h1⟩ := zeroOf_some (n := H.length) (m := m) hz
  rcases ht with ⟨fs, hu, hall, hp⟩ | ⟨k, e, n, b, hu, hi, hp⟩
  · obtain ⟨vs, hk, hl⟩ := parts_ok E hp h
    obtain ⟨c, hc, hk⟩ := ob_iff.1 hk
    obtain ⟨cells', hf, hv, ho⟩ := hl h2 h1 hc
    refine .same R hk ?_ (by simp only [VR]; exact ⟨ho, cells', rfl, hv⟩)
    have hplace : (fun i => ((fs.map fun f => (f.offset, P.cellsOf f.type))[i]?)) = fieldPlaces P fs := by
      funext i
      unfold fieldPlaces
      rw [Array.getElem?_map]
      cases hfi : fs[i]? with
      | none => rfl
      | some f =>
        have hm : f ∈ fs := by
          obtain ⟨hlt, rfl⟩ := Array.getElem?_eq_some_iff.1 hfi
          exact Array.getElem_mem hlt
        have : (P.info? f.type).isSome = true := by
          unfold allInfo at hall
          rw [Array.all_eq_true_iff_forall_mem] at hall
          exact hall f hm
        obtain ⟨i, hi⟩ := Option.isSome_iff_exists.1 this
        simp [infoOf, hi, Program.cellsOf]
    simp only [Instr.build, Sem.run_bind, hzv, Result.andThen_ok, run_underlying hu, mapM_fields P _ fs hall, hplace]
    have e1 : (ps.map fun x => match x with | (i, x) => (i, a.eval x)).toList = ps.toList.map fun p => (p.1, a.eval p.2) := by simp
    rw [e1, hf]
    simp
  · obtain ⟨vs, hk, hl⟩ := parts_ok E hp h
    obtain ⟨c, hc, hk⟩ := ob_iff.1 hk
    obtain ⟨cells', hf, hv, ho⟩ := hl h2 h1 hc
    refine .same R hk ?_ (by simp only [VR]; exact ⟨ho, cells', rfl, hv⟩)
    obtain ⟨inf, hi1, hi2, _⟩ := infoOf_some hi
    simp only [Instr.build, Sem.run_bind, hzv, Result.andThen_ok, run_underlying hu, run_size hi1, hi2]
    have e1 : (ps.map fun x => match x with | (i, x) => (i, a.eval x)).toList = ps.toList.map fun p => (p.1, a.eval p.2) := by simp
    rw [e1, hf]
    simp

theorem elemOfSlice_some {t e : TypeId} (h : elemOfSlice P t = some e) : P.underlying t = some (.slice e) := by
  unfold elemOfSlice at h
  split at h
  · cases h; assumption
  · cases h

theorem zeros_list (z : Array Value) (n : Nat) : ((Array.range (n * z.size)).map fun i => z[i % z.size]!).toList = (List.replicate n z.toList).flatten := by
  induction n with
  | zero => simp
  | succ n ih =>
    rcases Nat.eq_zero_or_pos z.size with h0 | h0
    · have : z = #[] := Array.eq_empty_of_size_eq_zero h0
      subst this
      simp
    · rw [List.replicate_succ', List.flatten_append, ← ih]
      simp only [Array.toList_map, Array.toList_range, List.flatten_singleton]
      rw [Nat.succ_mul, List.range_add, List.map_append, List.map_map]
      congr 1
      refine List.ext_getElem (by simp) fun i h1 h2 => ?_
      simp only [List.length_map, List.length_range] at h1
      simp only [List.getElem_map, List.getElem_range, Function.comp_apply, Nat.mul_add_mod_self_right, Nat.mod_eq_of_lt h1]
      simp [h1]

theorem VRL_flat {n : Nat} {z : List AV} {zs : List Value} (h : VRL n m z zs) : ∀ k, VRL n m (List.replicate k z).flatten (List.replicate k zs).flatten
  | 0 => by simp [VRL]
  | k + 1 => by simp only [List.replicate_succ, List.flatten_cons]; exact VRL_append h (VRL_flat h k)

theorem Ones_flat {z : List AV} (h : Ones z) (k : Nat) : Ones (List.replicate k z).flatten := by
  intro v hv
  simp only [List.mem_flatten, List.mem_replicate] at hv
  obtain ⟨l, ⟨_, rfl⟩, hv⟩ := hv
  exact h v hv

/-- A new row behind a slice. -/
theorem ok_arr (R : Rel W0 m H w) {c : List AV} {xs : Array Value} (e : TypeId) (h1 : Ones c) (h2 : VRL H.length m c xs.toList) {len es : Nat} {cap : Option Nat} {cc : Nat} (hle : len ≤ cc)
    (hcap : cap = some cc ∨ cap = none ∧ cc * es ≤ xs.size) (hk : K (.slice (.new H.length) 0 len es cap) (H ++ [.arr c])) (s : Sem Value)
    (hs : s.run P w = .ok (.slice (some ⟨w.heap.size, 0, none⟩) len cc) (w.alloc (.cells xs e))) : VOk P W0 m H w K s := by
  have R' := R.newCells c xs h1 h2 e false
  refine ⟨_, _, _, _, _, hk, hs, Ext.upd m H _ _, R', ?_⟩
  simp only [VR, Id.ok]
  refine ⟨by simp, _, _, rfl, hle, ?_⟩
  rcases hcap with rfl | ⟨rfl, hc⟩
  · exact ⟨rfl, fun _ => by simp [adr, Id.blk, Id.beg]⟩
  · refine ⟨?_, rfl, ?_, ?_, H.length, rfl, ?_⟩
    · simp [Id.blk]
    · simp [Id.beg]
    · simp [Id.beg]
    · simpa using hc

theorem ok_buildSlice (E : EnvR H.length m env a) (R : Rel W0 m H w) {t e : TypeId} {es b len : Nat} {z : List AV} {ps : Array (Nat × Operand)} {l : List (Nat × Nat × Opd)}
    (ht : elemOfSlice P t = some e) (hi : infoOf P e = some (es, b)) (hz : zeroOf P e = some z) (hzl : z.length = es) (hpos : 0 < es) (hsm : len * es ≤ 16777216)
    (hp : zipParts (fun i => some (i * es, es)) ps.toList = some l)
    (h : partsK env l fun vs => ob (layParts (List.replicate len z).flatten vs) fun c => K (.slice (.new H.length) 0 len es (some len)) (H ++ [.arr c])) :
    VOk P W0 m H w K (Instr.buildSlice t len (ps.map fun (i, x) => (i, a.eval x))) := by
  obtain ⟨zv, hzv, h2, h1⟩ := zeroOf_some (n := H.length) (m := m) hz
  obtain ⟨inf, hi1, hi2, _⟩ := infoOf_some hi
  obtain ⟨vs, hk, hl⟩ := parts_ok E hp h
  obtain ⟨c, hc, hk⟩ := ob_iff.1 hk
  have hzs : zv.cells.size = es := by rw [VRL_ones_len h2]; exact hzl
  have hrow : VRL H.length m (List.replicate len z).flatten ((Array.range (len * es)).map fun i => zv.cells[i % zv.cells.size]!).toList := by
    have := zeros_list zv.cells len
    rw [hzs] at this ⊢
    rw [this]
    exact VRL_flat h2 len
  obtain ⟨cells', hf, hv, ho⟩ := hl hrow (Ones_flat h1 len) hc
  refine ok_arr R e ho hv (Nat.le_refl _) (.inl rfl) hk _ ?_
  have e1 : (ps.map fun x => match x with | (i, x) => (i, a.eval x)).toList = ps.toList.map fun p => (p.1, a.eval p.2) := by simp
  have hng : ¬ (len * es > 16777216) := by omega
  simp only [Instr.buildSlice, Sem.run_bind, run_underlying (elemOfSlice_some ht), Result.andThen_ok, run_size hi1, hi2]
  rw [if_neg (by omega)]
  by_cases h0 : len * es = 0
  · have hl0 : len = 0 := by rcases Nat.mul_eq_zero.1 h0 with h | h <;> omega
    subst hl0
    have er : ∀ f : Nat → Value, (Array.range (0 * es)).map f = #[] := fun f => by simp
    rw [if_pos h0]
    simp only [Sem.run_bind, Sem.run_pure, Result.andThen_ok]
    rw [er] at hf ⊢
    rw [e1, hf]
    simp only [newRow, Sem.run_bind, run_newObj, Result.andThen_ok, Sem.run_pure]
    rfl
  · rw [if_neg h0]
    simp only [Sem.run_bind, hzv, Result.andThen_ok, Sem.run_pure]
    rw [e1, hf]
    simp only [newRow, Sem.run_bind, run_newObj, Result.andThen_ok, Sem.run_pure]
    rfl

/-! ### Numbers and texts -/
theorem run_eqGuard_int (op : BinOp) (t : TypeId) (x y : Operand) (k k' : IntKind) (a b : Int) : (eqGuard op t x y (.int k a) (.int k' b)).run P w = .ok () w := by
  cases op <;> simp [eqGuard]

theorem ok_ibin (E : EnvR H.length m env a) (R : Rel W0 m H w) {op : BinOp} {t : TypeId} {k : IntKind} {x y : Operand} {x' y' : Opd} (hx : opd x = some x') (hy : opd y = some y')
    (h1 : op ≠ .shl) (h2 : op ≠ .shr)
    (h : opK env x' fun v => pInt k v fun a => opK env y' fun u => pInt k u fun b => ibinK op k a b fun r => K r H) :
    VOk P W0 m H w K (do eqGuard op t x y (a.eval x) (a.eval y); binOp op t (a.eval x) (a.eval y)) := by
  obtain ⟨v, ha, hv⟩ := opd_ok E hx h
  obtain ⟨i, rfl, hb⟩ := pInt_iff.1 ha
  obtain ⟨u, hc, hu⟩ := opd_ok E hy hb
  obtain ⟨j, rfl, hd⟩ := pInt_iff.1 hc
  clear ha hc hb h
  have h := hd
  clear hd
  simp only [VR] at hv hu
  rw [hv, hu]
  have key : ∀ r : Value, (binOp op t (.int k i) (.int k j)).run P w = .ok r w → (do eqGuard op t x y (.int k i) (.int k j); binOp op t (.int k i) (.int k j) : Sem Value).run P w = .ok r w := fun r hr => by
    simp only [Sem.run_bind, run_eqGuard_int, Result.andThen_ok, hr]
  cases op <;> simp only [ibinK] at h <;> first
    | exact absurd rfl h1
    | exact absurd rfl h2
    | exact h.elim
    | (refine VOk.int R h (key _ ?_); simp [binOp, Op.intArith]; done)
    | (refine VOk.int R h (key _ ?_); simp [binOp, Op.intBits, bitsOp]; done)
    | (refine VOk.bool R (bs_imp (K := fun v => K v H) h) (key _ ?_); simp [binOp, Op.intCmp]; done)
    | (
      split at h
      · exact h.elim
      · rename_i hne
        refine VOk.int R h (key _ ?_)
        simp [binOp, Op.intDiv, hne]
        done)

theorem ok_shf (E : EnvR H.length m env a) (R : Rel W0 m H w) {op : BinOp} {t : TypeId} {k : IntKind} {x y : Operand} {x' y' : Opd} (hx : opd x = some x') (hy : opd y = some y')
    (hop : op = .shl ∨ op = .shr)
    (h : opK env x' fun v => pInt k v fun a => opK env y' fun u => pAny u fun b => shfK op k a b fun r => K r H) :
    VOk P W0 m H w K (do eqGuard op t x y (a.eval x) (a.eval y); binOp op t (a.eval x) (a.eval y)) := by
  obtain ⟨v, ha, hv⟩ := opd_ok E hx h
  obtain ⟨i, rfl, hb⟩ := pInt_iff.1 ha
  obtain ⟨u, hc, hu⟩ := opd_ok E hy hb
  obtain ⟨k2, j, rfl, hd⟩ := pAny_iff.1 hc
  clear ha hc hb h
  have h := hd
  clear hd
  simp only [VR] at hv hu
  rw [hv, hu]
  unfold shfK at h
  split at h
  · exact h.elim
  · rename_i hne
    rcases hop with rfl | rfl
    · exact VOk.int R h (by simp [run_eqGuard_int, binOp, Op.shift, hne])
    · exact VOk.int R h (by simp [run_eqGuard_int, binOp, Op.shift, hne])

theorem run_eqGuard_other (op : BinOp) (t : TypeId) (x y : Operand) (u v : Value) (h1 : u ≠ .nilIface ∨ v ≠ .nilIface) (h2 : ∀ c, u ≠ .agg c) : (eqGuard op t x y u v).run P w = .ok () w := by
  cases u with
  | agg c => exact absurd rfl (h2 c)
  | nilIface =>
    rcases h1 with h | h
    · exact absurd rfl h
    · cases v <;> first | exact absurd rfl h | (cases op <;> simp [eqGuard])
  | _ => cases op <;> simp [eqGuard]

theorem mk_toList (s : List UInt8) : (ByteArray.mk s.toArray).toList = s := ByteArray.toList_mk s
theorem mk_size (s : List UInt8) : (ByteArray.mk s.toArray).size = s.length := rfl
theorem mk_append (s t : List UInt8) : (ByteArray.mk s.toArray) ++ (ByteArray.mk t.toArray) = ByteArray.mk (s ++ t).toArray := by
  apply ByteArray.ext
  rw [ByteArray.data_append]
  simp
theorem mk_extract (s : List UInt8) (i j : Nat) : (ByteArray.mk s.toArray).extract i j = ByteArray.mk ((s.drop i).take (j - i)).toArray := by
  exact (Lib.extract_eq _ _ _)
theorem ok_sbin (E : EnvR H.length m env a) (R : Rel W0 m H w) {op : BinOp} {t : TypeId} {x y : Operand} {x' y' : Opd} (hx : opd x = some x') (hy : opd y = some y')
    (h : opK env x' fun v => pStr v fun a => opK env y' fun u => pStr u fun b => sbinK op a b fun r => K r H) :
    VOk P W0 m H w K (do eqGuard op t x y (a.eval x) (a.eval y); binOp op t (a.eval x) (a.eval y)) := by
  obtain ⟨v, ha, hv⟩ := opd_ok E hx h
  obtain ⟨i, rfl, hb⟩ := pStr_iff.1 ha
  obtain ⟨u, hc, hu⟩ := opd_ok E hy hb
  obtain ⟨j, rfl, hd⟩ := pStr_iff.1 hc
  clear ha hc hb h
  have h := hd
  clear hd
  simp only [VR] at hv hu
  rw [hv, hu]
  have hg : (eqGuard op t x y (.string ⟨i.toArray⟩) (.string ⟨j.toArray⟩)).run P w = .ok () w := run_eqGuard_other _ _ _ _ _ _ (.inl (by simp)) (by simp)
  cases op <;> simp only [sbinK] at h <;> first
    | exact h.elim
    | (refine VOk.bool R (bs_imp (K := fun v => K v H) h) ?_; simp [hg, binOp, Op.stringOp, mk_toList, sLess]; done)
    | (
      split at h
      · rename_i hle
        refine VOk.str R h ?_
        have hmax : ((⟨i.toArray⟩ : ByteArray).size : Int) + ((⟨j.toArray⟩ : ByteArray).size : Int) ≤ 9223372036854775807 := by
          rw [mk_size, mk_size]
          unfold maxInt at hle
          omega
        simp [hg, binOp, Op.stringOp, hmax, mk_append]
      · exact h.elim)

theorem equal_bool (d : Nat) {t : TypeId} (ht : P.underlying t = some .bool) (i j : Bool) : (Op.equalIn (d + 1) t (.bool i) (.bool j)).run P w = .ok (i == j) w := by
  simp [Op.equalIn, run_underlying ht]

theorem ok_beq (E : EnvR H.length m env a) (R : Rel W0 m H w) {ng : Bool} {t : TypeId} {x y : Operand} {x' y' : Opd} (ht : P.underlying t = some .bool) (hx : opd x = some x') (hy : opd y = some y')
    (h : opK env x' fun v => pBool v fun a => opK env y' fun u => pBool u fun b => bs (if ng then !(a == b) else a == b) (K (.bool true) H) (K (.bool false) H)) :
    VOk P W0 m H w K (do eqGuard (if ng then .neq else .eql) t x y (a.eval x) (a.eval y); binOp (if ng then .neq else .eql) t (a.eval x) (a.eval y)) := by
  obtain ⟨v, ha, hv⟩ := opd_ok E hx h
  obtain ⟨i, rfl, hb⟩ := pBool_iff.1 ha
  obtain ⟨u, hc, hu⟩ := opd_ok E hy hb
  obtain ⟨j, rfl, hd⟩ := pBool_iff.1 hc
  clear ha hc hb h
  have h := hd
  clear hd
  simp only [VR] at hv hu
  rw [hv, hu]
  have hg : ∀ op, (eqGuard op t x y (.bool i) (.bool j)).run P w = .ok () w := fun _ => run_eqGuard_other _ _ _ _ _ _ (.inl (by simp)) (by simp)
  have he : (Op.equal t (.bool i) (.bool j)).run P w = .ok (i == j) w := equal_bool 9999 ht i j
  cases ng
  · exact VOk.bool R (bs_imp2 h) (by simp [hg, binOp, he])
  · exact VOk.bool R (bs_imp2 h) (by simp [hg, binOp, he])

end

end Go.Am
