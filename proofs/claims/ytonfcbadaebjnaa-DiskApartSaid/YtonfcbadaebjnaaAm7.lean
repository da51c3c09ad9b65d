/- What the translated operations do in the model, continued: nil, places, parts, slices. -/
import Derived.Test.YtonfcbadaebjnaaAm6
namespace Go.Am
open Go Go.RowKit

section
variable {P : Program} {B : Base} {W0 : Bw} {m : Plcs} {H : Heap} {w : World} {K : AV → Heap → Prop} {env : Env} {a : Act}

/-! ### Nil, and places held against one another -/
theorem isNilConst_eq {k : NilK} {x : Operand} (h : isNilConst k x = true) : x = .const (nilVal k) := by
  unfold isNilConst at h
  split at h <;> first | rfl | (cases h)

theorem equal_nil {n : Nat} (d : Nat) {t : TypeId} {D : TypeDesc} (ht : P.underlying t = some D) {k : NilK} (hk : nilKind D = some k) {v : AV} {x : Value} (hv : VR n m v x) {b : Bool} (hb : nilOf k v = some b) :
    (Op.equalIn (d + 1) t x (nilVal k)).run P w = .ok b w ∧ (Op.equalIn (d + 1) t (nilVal k) x).run P w = .ok b w := by
  cases D <;> simp only [nilKind, reduceCtorEq, Option.some.injEq] at hk <;> subst hk <;> cases v <;> simp only [nilOf, reduceCtorEq, Option.some.injEq] at hb
  case pointer.ptr e o =>
    subst hb
    cases o with
    | none => simp only [VR] at hv; subst hv; simp [Op.equalIn, run_underlying ht, nilVal]
    | some q => simp only [VR] at hv; obtain ⟨_, rfl⟩ := hv; simp [Op.equalIn, run_underlying ht, nilVal]
  case slice.nils e => subst hb; simp only [VR] at hv; subst hv; simp [Op.equalIn, run_underlying ht, nilVal]
  case slice.slice => subst hb; simp only [VR] at hv; obtain ⟨_, _, _, rfl, _⟩ := hv; simp [Op.equalIn, run_underlying ht, nilVal]
  case map.map e f o =>
    subst hb
    cases o with
    | none => simp only [VR] at hv; subst hv; simp [Op.equalIn, run_underlying ht, nilVal]
    | some q => simp only [VR] at hv; obtain ⟨_, rfl⟩ := hv; simp [Op.equalIn, run_underlying ht, nilVal]
  case func.nilf => subst hb; simp only [VR] at hv; subst hv; simp [Op.equalIn, run_underlying ht, nilVal]
  case func.func => subst hb; simp only [VR] at hv; obtain ⟨_, _, rfl, _⟩ := hv; simp [Op.equalIn, run_underlying ht, nilVal]
  case interface.nili => subst hb; simp only [VR] at hv; subst hv; simp [Op.equalIn, run_underlying ht, nilVal]
  case interface.iface => subst hb; simp only [VR] at hv; obtain ⟨_, rfl, _⟩ := hv; simp [Op.equalIn, run_underlying ht, nilVal]

theorem guard_nil (op : BinOp) (t : TypeId) (k : NilK) (x y : Operand) (u : Value) :
    (eqGuard op t x (.const (nilVal k)) u (nilVal k)).run P w = .ok () w ∧ (eqGuard op t (.const (nilVal k)) y (nilVal k) u).run P w = .ok () w := by
  constructor
  · cases op <;> cases k <;> cases u <;> simp [eqGuard, nilVal]
  · cases op <;> cases k <;> cases u <;> simp [eqGuard, nilVal]

theorem binOp_nil (t : TypeId) (k : NilK) {n : Nat} {v : AV} {x : Value} (hv : VR n m v x) {b : Bool} (hb : nilOf k v = some b) :
    (binOp .eql t x (nilVal k) = do pure (.bool (← Op.equal t x (nilVal k)))) ∧ (binOp .neq t x (nilVal k) = do pure (.bool (!(← Op.equal t x (nilVal k))))) ∧
    (binOp .eql t (nilVal k) x = do pure (.bool (← Op.equal t (nilVal k) x))) ∧ (binOp .neq t (nilVal k) x = do pure (.bool (!(← Op.equal t (nilVal k) x)))) := by
  have : (∃ p, x = .pointer p) ∨ (∃ p q r, x = .slice p q r) ∨ (∃ p, x = .map p) ∨ x = .nilFunc ∨ (∃ p q r, x = .func p q r) ∨ x = .nilIface ∨ ∃ p q, x = .iface p q := by
    cases k <;> cases v <;> simp only [nilOf, reduceCtorEq, Option.some.injEq] at hb
    case ptr.ptr o => cases o <;> simp only [VR] at hv <;> (first | (subst hv; exact .inl ⟨_, rfl⟩) | (obtain ⟨_, rfl⟩ := hv; exact .inl ⟨_, rfl⟩))
    case slice.nils => simp only [VR] at hv; subst hv; exact .inr (.inl ⟨_, _, _, rfl⟩)
    case slice.slice => simp only [VR] at hv; obtain ⟨_, _, _, rfl, _⟩ := hv; exact .inr (.inl ⟨_, _, _, rfl⟩)
    case map.map o => cases o <;> simp only [VR] at hv <;> (first | (subst hv; exact .inr (.inr (.inl ⟨_, rfl⟩))) | (obtain ⟨_, rfl⟩ := hv; exact .inr (.inr (.inl ⟨_, rfl⟩))))
    case func.nilf => simp only [VR] at hv; subst hv; exact .inr (.inr (.inr (.inl rfl)))
    case func.func => simp only [VR] at hv; obtain ⟨_, _, rfl, _⟩ := hv; exact .inr (.inr (.inr (.inr (.inl ⟨_, _, _, rfl⟩))))
    case iface.nili => simp only [VR] at hv; subst hv; exact .inr (.inr (.inr (.inr (.inr (.inl rfl)))))
    case iface.iface => simp only [VR] at hv; obtain ⟨_, rfl, _⟩ := hv; exact .inr (.inr (.inr (.inr (.inr (.inr ⟨_, _, rfl⟩)))))
  rcases this with ⟨_, rfl⟩ | ⟨_, _, _, rfl⟩ | ⟨_, rfl⟩ | rfl | ⟨_, _, _, rfl⟩ | rfl | ⟨_, _, rfl⟩ <;> cases k <;> simp [binOp, nilVal]

theorem ok_isNil (E : EnvR H.length m env a) (R : Rel W0 m H w) {ng : Bool} {t : TypeId} {D : TypeDesc} (ht : P.underlying t = some D) {k : NilK} (hk : nilKind D = some k) {x y : Operand} {z : Operand} {z' : Opd} (hz : opd z = some z')
    (hxy : (z = x ∧ y = .const (nilVal k)) ∨ (z = y ∧ x = .const (nilVal k)))
    (h : opK env z' fun v => ob (nilOf k v) fun b => bs (if ng then !b else b) (K (.bool true) H) (K (.bool false) H)) :
    VOk P W0 m H w K (do eqGuard (if ng then .neq else .eql) t x y (a.eval x) (a.eval y); binOp (if ng then .neq else .eql) t (a.eval x) (a.eval y)) := by
  obtain ⟨v, ha, hv⟩ := opd_ok E hz h
  obtain ⟨b, hb, hc⟩ := ob_iff.1 ha
  obtain ⟨e1, e2⟩ := equal_nil (P := P) (w := w) 9999 ht hk hv hb
  obtain ⟨b1, b2, b3, b4⟩ := binOp_nil t k hv hb
  have q1 : (Op.equal t (a.eval z) (nilVal k)).run P w = .ok b w := e1
  have q2 : (Op.equal t (nilVal k) (a.eval z)).run P w = .ok b w := e2
  rcases hxy with ⟨rfl, rfl⟩ | ⟨rfl, rfl⟩
  · have hg := fun op => (guard_nil (P := P) (w := w) op t k z z (a.eval z)).1
    have hcst : a.eval (.const (nilVal k)) = nilVal k := rfl
    rw [hcst]
    cases ng
    · exact VOk.bool R (bs_imp2 hc) (by simp [hg, b1, q1])
    · exact VOk.bool R (bs_imp2 hc) (by simp [hg, b2, q1])
  · have hg := fun op => (guard_nil (P := P) (w := w) op t k z z (a.eval z)).2
    have hcst : a.eval (.const (nilVal k)) = nilVal k := rfl
    rw [hcst]
    cases ng
    · exact VOk.bool R (bs_imp2 hc) (by simp [hg, b3, q2])
    · exact VOk.bool R (bs_imp2 hc) (by simp [hg, b4, q2])

theorem equal_ptr (d : Nat) {t e : TypeId} (ht : P.underlying t = some (.pointer e)) {i : TypeInfo} (hi : P.info? e = some i) (hn : i.size ≠ 0) (p q : Addr) :
    (Op.equalIn (d + 1) t (.pointer (some p)) (.pointer (some q))).run P w = (sameAddr p q).run P w := by
  simp [Op.equalIn, run_underlying ht, run_size hi, hn]

theorem same_var (R : Rel W0 m H w) {k l : Nat} {c c' : List AV} (hk : H[k]? = some (.var c)) (hl : H[l]? = some (.var c')) (i j : Nat) :
    (sameAddr (adr m (.new k) i) (adr m (.new l) j)).run P w = .ok (k == l && i == j) w := by
  obtain ⟨_, x, e, f, h1, h2, _⟩ := R.objs k _ hk
  obtain ⟨_, x', e', f', h1', h2', _⟩ := R.objs l _ hl
  have hf : f = (0, 0) := by rcases h2 with h | ⟨h, _⟩; exact h; cases h
  have hf' : f' = (0, 0) := by rcases h2' with h | ⟨h, _⟩; exact h; cases h
  subst hf; subst hf'
  by_cases e1 : k = l
  · subst e1
    have : (adr m (.new k) i == adr m (.new k) j) = (i == j) := by
      rw [Bool.eq_iff_iff]
      simp [adr]
    simp [sameAddr, adr, Id.blk, Id.beg]
    simpa [adr, Id.blk, Id.beg] using this
  · have hne := R.inj k l _ _ hk hl rfl rfl e1
    have hsh : w.shape? (m k).blk = some (e, x.size) := by simp [World.shape?, h1]
    have hsh' : w.shape? (m l).blk = some (e', x'.size) := by simp [World.shape?, h1']
    have fz : ∀ o, w.frozen? ⟨(m k).blk, o, none⟩ = false := fun o => by simp [World.frozen?, h1]
    have fz' : ∀ o, w.frozen? ⟨(m l).blk, o, none⟩ = false := fun o => by simp [World.frozen?, h1']
    have e3 : (k == l) = false := by simpa using e1
    simp [sameAddr, adr, Id.blk, Id.beg, hne, fz, fz', noView, viewAt, hsh, hsh', mayBeOne, stringish, e3]

theorem equal_nilL (d : Nat) {t e : TypeId} (ht : P.underlying t = some (.pointer e)) (q : Option Addr) : (Op.equalIn (d + 1) t (.pointer none) (.pointer q)).run P w = .ok q.isNone w := by
  simp [Op.equalIn, run_underlying ht]
theorem equal_nilR (d : Nat) {t e : TypeId} (ht : P.underlying t = some (.pointer e)) (q : Addr) : (Op.equalIn (d + 1) t (.pointer (some q)) (.pointer none)).run P w = .ok false w := by
  simp [Op.equalIn, run_underlying ht]

theorem ok_peq (E : EnvR H.length m env a) (R : Rel W0 m H w) {ng : Bool} {t e : TypeId} (ht : P.underlying t = some (.pointer e)) {n b : Nat} (hi : infoOf P e = some (n, b)) (hn : n ≠ 0) {x y : Operand} {x' y' : Opd} (hx : opd x = some x') (hy : opd y = some y')
    (h : opK env x' fun v => opK env y' fun u => ob (ptrEq H v u) fun b => bs (if ng then !b else b) (K (.bool true) H) (K (.bool false) H)) :
    VOk P W0 m H w K (do eqGuard (if ng then .neq else .eql) t x y (a.eval x) (a.eval y); binOp (if ng then .neq else .eql) t (a.eval x) (a.eval y)) := by
  obtain ⟨v, ha, hv⟩ := opd_ok E hx h
  obtain ⟨u, hb, hu⟩ := opd_ok E hy ha
  obtain ⟨r, hr, hc⟩ := ob_iff.1 hb
  obtain ⟨inf, hi1, hi2, _⟩ := infoOf_some hi
  have key : ∃ p q, a.eval x = .pointer p ∧ a.eval y = .pointer q ∧ (Op.equal t (.pointer p) (.pointer q)).run P w = .ok r w := by
    unfold ptrEq at hr
    split at hr
    · rename_i q
      simp only [VR] at hv
      cases q with
      | none => simp only [VR] at hu; cases hr; exact ⟨_, _, hv, hu, equal_nilL 9999 ht _⟩
      | some q => simp only [VR] at hu; cases hr; exact ⟨_, _, hv, hu.2, equal_nilL 9999 ht _⟩
    · simp only [VR] at hv hu
      cases hr
      exact ⟨_, _, hv.2, hu, equal_nilR 9999 ht _⟩
    · rename_i k i l j
      split at hr
      · rename_i c c' hk hl
        cases hr
        simp only [VR] at hv hu
        refine ⟨_, _, hv.2, hu.2, ?_⟩
        have := equal_ptr (P := P) (w := w) 9999 ht hi1 (by omega) (adr m (.new k) i) (adr m (.new l) j)
        exact this.trans (same_var R hk hl i j)
      · cases hr
    · cases hr
  obtain ⟨p, q, hp, hq, hrun⟩ := key
  rw [hp, hq]
  have hg : ∀ op, (eqGuard op t x y (.pointer p) (.pointer q)).run P w = .ok () w := fun _ => run_eqGuard_other _ _ _ _ _ _ (.inl (by simp)) (by simp)
  cases ng
  · exact VOk.bool R (bs_imp2 hc) (by simp [hg, binOp, hrun])
  · exact VOk.bool R (bs_imp2 hc) (by simp [hg, binOp, hrun])

/-! ### Places -/
theorem ok_fieldPtr (E : EnvR H.length m env a) (R : Rel W0 m H w) {t : TypeId} {fs : Array Field} (ht : P.underlying t = some (.struct fs)) {i : Nat} {f : Field} (hf : fs[i]? = some f) {n b : Nat} (hi : infoOf P f.type = some (n, b)) (hn : n ≠ 0)
    {x : Operand} {x' : Opd} (hx : opd x = some x') (h : opK env x' fun v => match v with
      | .ptr (some (o, i)) => K (.ptr (some (o, i + f.offset))) H
      | _ => False) : VOk P W0 m H w K (Instr.fieldAt t (a.eval x) i) := by
  obtain ⟨v, ha, hv⟩ := opd_ok E hx h
  obtain ⟨inf, hi1, hi2, _⟩ := infoOf_some hi
  split at ha
  · rename_i o j
    obtain ⟨hok, hv⟩ := VR_ptr hv
    rw [hv]
    refine .same R ha ?_ (by simp only [VR]; exact ⟨hok, rfl⟩)
    have hne : ¬ (inf.size = 0) := by omega
    simp [Instr.fieldAt, run_underlying ht, hf, Instr.sureAddr, fieldPlace, run_size hi1, hne, adr_add]
  · exact ha.elim

theorem ok_indexPtr (E : EnvR H.length m env a) (R : Rel W0 m H w) {t e : TypeId} (ht : P.underlying t = some (.slice e)) {es b : Nat} (hi : infoOf P e = some (es, b)) {x y : Operand} {x' y' : Opd} (hx : opd x = some x') (hy : opd y = some y')
    (h : opK env x' fun v => opK env y' fun u => pAny u fun a => match v with
      | .slice o off len es' _ => if es' = es ∧ 0 ≤ a ∧ a < len then K (.ptr (some (o, off + a.toNat * es))) H else False
      | _ => False) : VOk P W0 m H w K (Instr.indexAt t (a.eval x) (a.eval y)) := by
  obtain ⟨v, ha, hv⟩ := opd_ok E hx h
  obtain ⟨u, hb, hu⟩ := opd_ok E hy ha
  obtain ⟨k, i, rfl, hc⟩ := pAny_iff.1 hb
  obtain ⟨inf, hi1, hi2, _⟩ := infoOf_some hi
  simp only [VR] at hu; rw [hu]
  split at hc
  · rename_i o off len es' cap
    split at hc
    · rename_i hcond
      obtain ⟨rfl, h0, h1⟩ := hcond
      simp only [VR] at hv
      obtain ⟨hok, a', c, hv, hle, hsl⟩ := hv
      rw [hv]
      have hadr : a' = adr m o off := by
        cases cap with
        | some c'' => exact hsl.2 (by have := hsl.1; omega)
        | none =>
          obtain ⟨g1, g2, _, g3, _⟩ := hsl
          have := g3 (by omega)
          cases a'
          simp only at g1 g2 this
          simp [adr, g1, g2, this]
      subst hadr
      refine .same R hc ?_ (by simp only [VR]; exact ⟨hok, rfl⟩)
      simp [Instr.indexAt, asIntOf, run_underlying ht, h0, h1, run_size hi1, hi2, adr_add]
    · exact hc.elim
  · exact hc.elim

theorem ok_indexPtrA (E : EnvR H.length m env a) (R : Rel W0 m H w) {t e : TypeId} {n : Nat} (ht : P.underlying t = some (.array n e)) {es b : Nat} (hi : infoOf P e = some (es, b)) {x y : Operand} {x' y' : Opd} (hx : opd x = some x') (hy : opd y = some y')
    (h : opK env x' fun v => opK env y' fun u => pAny u fun a => match v with
      | .ptr (some (o, j)) => if 0 ≤ a ∧ a < n then K (.ptr (some (o, j + a.toNat * es))) H else False
      | _ => False) : VOk P W0 m H w K (Instr.indexAt t (a.eval x) (a.eval y)) := by
  obtain ⟨v, ha, hv⟩ := opd_ok E hx h
  obtain ⟨u, hb, hu⟩ := opd_ok E hy ha
  obtain ⟨k, i, rfl, hc⟩ := pAny_iff.1 hb
  obtain ⟨inf, hi1, hi2, _⟩ := infoOf_some hi
  simp only [VR] at hu; rw [hu]
  split at hc
  · rename_i o j
    split at hc
    · rename_i hcond
      obtain ⟨hok, hv⟩ := VR_ptr hv
      rw [hv]
      refine .same R hc ?_ (by simp only [VR]; exact ⟨hok, rfl⟩)
      simp [Instr.indexAt, asIntOf, run_underlying ht, Instr.sureAddr, hcond.1, hcond.2, run_size hi1, hi2, adr_add]
    · exact hc.elim
  · exact hc.elim

theorem ok_indexS (E : EnvR H.length m env a) (R : Rel W0 m H w) {t : TypeId} (ht : P.underlying t = some .string) {x y : Operand} {x' y' : Opd} (hx : opd x = some x') (hy : opd y = some y')
    (h : opK env x' fun v => pStr v fun s => opK env y' fun u => pAny u fun a => if 0 ≤ a then ob s[a.toNat]? fun b => K (.int .u8 b.toNat) H else False) : VOk P W0 m H w K (Instr.index t (a.eval x) (a.eval y)) := by
  obtain ⟨v, ha, hv⟩ := opd_ok E hx h
  obtain ⟨s, rfl, hb⟩ := pStr_iff.1 ha
  obtain ⟨u, hc, hu⟩ := opd_ok E hy hb
  obtain ⟨k, i, rfl, hd⟩ := pAny_iff.1 hc
  simp only [VR] at hu hv; rw [hu, hv]
  split at hd
  · rename_i h0
    obtain ⟨b, hb', hk⟩ := ob_iff.1 hd
    have hs : (ByteArray.mk s.toArray)[i.toNat]? = some b := by
      show (if h : i.toNat < (ByteArray.mk s.toArray).size then some ((ByteArray.mk s.toArray)[i.toNat]) else none) = some b
      obtain ⟨hlt, he⟩ := List.getElem?_eq_some_iff.1 hb'
      rw [dif_pos (by rw [mk_size]; exact hlt)]
      exact congrArg some he
    refine VOk.int R hk ?_
    simp [Instr.index, asIntOf, run_underlying ht, h0, hs]
  · exact hd.elim

/-! ### Parts of values -/
theorem run_part_one {t : TypeId} {y : Ty} (ht : tyOf P t = some (.one y)) {cs : Array Value} {off : Nat} {x : Value} (hx : cs[off]? = some x) : (part t cs off).run P w = .ok x w := by
  simp only [part, Sem.run_bind, tyOf_one ht, Result.andThen_ok, Bool.false_eq_true, if_false, hx]
  rfl

theorem run_part_agg {t : TypeId} (ht : tyOf P t = some .agg) {i : TypeInfo} (hi : P.info? t = some i) (cs : Array Value) (off : Nat) : (part t cs off).run P w = .ok (.agg (cs.extract off (off + i.size))) w := by
  simp only [part, Sem.run_bind, tyOf_agg ht, Result.andThen_ok, if_true, run_size hi]
  rfl

theorem VRL_extract {n : Nat} {c : List AV} {xs : Array Value} (h : VRL n m c xs.toList) (off k : Nat) : VRL n m ((c.drop off).take k) (xs.extract off (off + k)).toList := by
  rw [Array.toList_extract, List.extract_eq_take_drop]
  have := VRL_take (VRL_drop h off) k
  simpa using this

theorem ok_field (E : EnvR H.length m env a) (R : Rel W0 m H w) {t : TypeId} {fs : Array Field} (ht : P.underlying t = some (.struct fs)) {i : Nat} {f : Field} (hf : fs[i]? = some f) {n b : Nat} (hi : infoOf P f.type = some (n, b)) {ty : Option Ty}
    {x : Operand} {x' : Opd} (hx : opd x = some x') (h : opK env x' fun v => match v with
      | .agg c => match ty with
        | some t => ob c[f.offset]? fun v => tyK t v fun v => K v H
        | none => if f.offset + n ≤ c.length then K (.agg ((c.drop f.offset).take n)) H else False
      | _ => False)
    (hty : match ty with | some y => tyOf P f.type = some (.one y) | none => tyOf P f.type = some .agg) : VOk P W0 m H w K (Instr.field t (a.eval x) i) := by
  obtain ⟨v, ha, hv⟩ := opd_ok E hx h
  obtain ⟨inf, hi1, hi2, _⟩ := infoOf_some hi
  split at ha
  · rename_i c
    simp only [VR] at hv
    obtain ⟨ho, l', hv, hl⟩ := hv
    rw [hv]
    cases ty with
    | some y =>
      obtain ⟨u, hu, hk⟩ := ob_iff.1 ha
      obtain ⟨z, hz, hr⟩ := VRL_get hl hu
      rw [Array.getElem?_toList] at hz
      exact .same R (tyK_imp hk).2 (by simp [Instr.field, run_underlying ht, hf, asAgg, run_part_one hty hz]) hr
    | none =>
      simp only at ha
      split at ha
      · refine VOk.same (x := .agg (l'.extract f.offset (f.offset + n))) R ha (by simp only [Instr.field, Sem.run_bind, run_underlying ht, Result.andThen_ok, hf, asAgg, Sem.run_pure, run_part_agg hty hi1, hi2]) ?_
        simp only [VR]
        exact ⟨fun v hv => ho v (List.mem_of_mem_drop (List.mem_of_mem_take hv)), _, rfl, VRL_extract hl _ _⟩
      · exact ha.elim
  · exact ha.elim

theorem ok_indexA (E : EnvR H.length m env a) (R : Rel W0 m H w) {t e : TypeId} {n : Nat} (ht : P.underlying t = some (.array n e)) {es b : Nat} (hi : infoOf P e = some (es, b)) {ty : Option Ty}
    {x y : Operand} {x' y' : Opd} (hx : opd x = some x') (hy : opd y = some y') (h : opK env x' fun v => opK env y' fun u => pAny u fun a => match v with
    | .agg c => if 0 ≤ a ∧ a < n then match ty with
        | some t => ob c[a.toNat * es]? fun v => tyK t v fun v => K v H
        | none => if a.toNat * es + es ≤ c.length then K (.agg ((c.drop (a.toNat * es)).take es)) H else False
      else False
    | _ => False)
    (hty : match ty with | some y => tyOf P e = some (.one y) | none => tyOf P e = some .agg) : VOk P W0 m H w K (Instr.index t (a.eval x) (a.eval y)) := by
  obtain ⟨v, ha, hv⟩ := opd_ok E hx h
  obtain ⟨u, hb, hu⟩ := opd_ok E hy ha
  obtain ⟨k, i, rfl, hc⟩ := pAny_iff.1 hb
  obtain ⟨inf, hi1, hi2, _⟩ := infoOf_some hi
  simp only [VR] at hu; rw [hu]
  split at hc
  · rename_i c
    split at hc
    · rename_i hcond
      simp only [VR] at hv
      obtain ⟨ho, l', hv, hl⟩ := hv
      rw [hv]
      cases ty with
      | some y =>
        obtain ⟨u, hu, hk⟩ := ob_iff.1 hc
        obtain ⟨z, hz, hr⟩ := VRL_get hl hu
        rw [Array.getElem?_toList] at hz
        exact .same R (tyK_imp hk).2 (by simp [Instr.index, asIntOf, run_underlying ht, hcond.1, hcond.2, run_size hi1, hi2, run_part_one hty hz]) hr
      | none =>
        simp only at hc
        split at hc
        · refine VOk.same (x := .agg (l'.extract (i.toNat * es) (i.toNat * es + es))) R hc (by simp [Instr.index, asIntOf, run_underlying ht, hcond.1, hcond.2, run_size hi1, hi2, run_part_agg hty hi1]) ?_
          simp only [VR]
          exact ⟨fun v hv => ho v (List.mem_of_mem_drop (List.mem_of_mem_take hv)), _, rfl, VRL_extract hl _ _⟩
        · exact hc.elim
    · exact hc.elim
  · exact hc.elim

end

end Go.Am
