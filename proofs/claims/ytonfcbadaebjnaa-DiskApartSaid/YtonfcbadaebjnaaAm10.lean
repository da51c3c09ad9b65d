/- What the translated operations do in the model, continued: structs and arrays held against one another. -/
import Derived.Test.YtonfcbadaebjnaaAm9
import Derived.ChangeKeysEq
namespace Go.Am
open Go Go.RowKit

section
variable {P : Program} {W0 : Bw} {m : Plcs} {H : Heap} {w : World} {K : AV → Heap → Prop} {env : Env} {a : Act}

/-- A value and its cells. -/
def PartR (P : Program) (n : Nat) (m : Plcs) (t : TypeId) (A : List AV) (x : Value) : Prop :=
  (∃ b, infoOf P t = some (A.length, b)) ∧ ((tyOf P t = some .agg ∧ ∃ X, x = .agg X ∧ VRL n m A X.toList) ∨ (∃ y, tyOf P t = some (.one y)) ∧ ∃ v, A = [v] ∧ VR n m v x)

theorem cellsEq_append {l l' : List (Nat × Ty)} {X Y : List AV} : cellsEq (l ++ l') X Y = match cellsEq l X Y with
    | some true => cellsEq l' X Y
    | some false => some false
    | none => none := by
  induction l with
  | nil => simp [cellsEq]
  | cons p l ih =>
    obtain ⟨i, t⟩ := p
    simp only [List.cons_append, cellsEq]
    cases X[i]? <;> cases Y[i]? <;> try rfl
    simp only
    cases cellEq t _ _ with
    | none => rfl
    | some b => cases b <;> simp [ih]

/-- The cells of a part lie in it. -/
theorem eqCells_lt : ∀ (d : Nat) (t : TypeId) (l : List (Nat × Ty)) (n b : Nat), eqCells P d t = some l → infoOf P t = some (n, b) → ∀ p, p ∈ l → p.1 < n
  | 0, _, _, _, _, h, _ => by simp [eqCells] at h
  | d + 1, t, l, n, b, h, hi => by
    simp only [eqCells] at h
    split at h
    · split at h
      · rename_i h1; cases h; intro p hp; simp at hp; subst hp; rw [hi] at h1; simp at h1; simp [h1]
      · cases h
    · split at h
      · rename_i h1; cases h; intro p hp; simp at hp; subst hp; rw [hi] at h1; simp at h1; simp [h1]
      · cases h
    · split at h
      · rename_i h1; cases h; intro p hp; simp at hp; subst hp; rw [hi] at h1; simp at h1; simp [h1]
      · cases h
    · rename_i fs hu
      split at h
      · cases h
      · rw [hi] at h
        simp only [Option.map_some] at h
        have key : ∀ (fs : List Field) (l : List (Nat × Ty)), eqFields P (eqCells P d) (some n) fs = some l → ∀ p, p ∈ l → p.1 < n := by
          intro fs
          induction fs with
          | nil => intro l h p hp; simp only [eqFields] at h; cases h; simp at hp
          | cons f fs ih =>
            intro l h p hp
            simp only [eqFields] at h
            split at h
            · cases h
            · rename_i r hr
              split at h
              · cases h; exact ih _ hr p hp
              · split at h
                · rename_i l1 n1 b1 size h1 h2 h3
                  cases h3
                  split at h
                  · rename_i hle
                    cases h
                    rcases List.mem_append.1 hp with hp | hp
                    · obtain ⟨q, hq, rfl⟩ := List.mem_map.1 hp
                      have := eqCells_lt d f.type l1 n1 b1 h1 h2 q hq
                      simp only; omega
                    · exact ih _ hr p hp
                  · cases h
                · cases h
        exact key fs.toList l h
    · rename_i k e hu
      split at h
      · rename_i l1 es b1 size b2 h1 h2 h3
        rw [hi] at h3; cases h3
        split at h
        · rename_i hle
          cases h
          intro p hp
          obtain ⟨j, hj, hp⟩ := List.mem_flatMap.1 hp
          obtain ⟨q, hq, rfl⟩ := List.mem_map.1 hp
          have := eqCells_lt d e l1 es b1 h1 h2 q hq
          have hj' : j < k := by simpa using hj
          have h5 : (j + 1) * es ≤ k * es := Nat.mul_le_mul_right _ hj'
          rw [Nat.add_mul, Nat.one_mul] at h5
          simp only; omega
        · cases h
      · cases h
    · cases h

theorem cellsEq_part {X Y : List AV} {off n : Nat} : ∀ {l : List (Nat × Ty)}, (∀ p, p ∈ l → p.1 < n) → cellsEq (l.map fun p => (off + p.1, p.2)) X Y = cellsEq l ((X.drop off).take n) ((Y.drop off).take n)
  | [], _ => rfl
  | (i, t) :: l, h => by
    have hi : i < n := h (i, t) (by simp)
    have e : ∀ Z : List AV, ((Z.drop off).take n)[i]? = Z[off + i]? := fun Z => by rw [List.getElem?_take_of_lt hi, List.getElem?_drop]
    simp only [List.map_cons, cellsEq, e, cellsEq_part (l := l) fun p hp => h p (by simp [hp])]

theorem part_sub {n : Nat} {t : TypeId} {k b : Nat} (hi : infoOf P t = some (k, b)) (hty : tyOf P t = some .agg ∨ (∃ y, tyOf P t = some (.one y)) ∧ k = 1) {X : Array Value} {A : List AV} (h : VRL n m A X.toList) {off : Nat} (hle : off + k ≤ A.length) :
    ∃ x, (part t X off).run P w = .ok x w ∧ PartR P n m t ((A.drop off).take k) x := by
  have hlen : ((A.drop off).take k).length = k := by simp; omega
  obtain ⟨inf, hi1, hi2, hi3⟩ := infoOf_some hi
  rcases hty with hty | ⟨⟨y, hty⟩, rfl⟩
  · refine ⟨_, run_part_agg hty hi1 X off, ⟨b, by rw [hlen]; exact hi⟩, .inl ⟨hty, _, rfl, ?_⟩⟩
    rw [hi2]; exact VRL_extract h off k
  · obtain ⟨x, hx, hr⟩ := VRL_get h (List.getElem?_eq_getElem (show off < A.length by omega))
    rw [Array.getElem?_toList] at hx
    refine ⟨x, run_part_one hty hx, ⟨b, by rw [hlen]; exact hi⟩, .inr ⟨⟨y, hty⟩, _, ?_, hr⟩⟩
    rw [List.drop_eq_getElem_cons (show off < A.length by omega)]; rfl

theorem eqCells_ty {d : Nat} {t : TypeId} {l : List (Nat × Ty)} (h : eqCells P d t = some l) {k b : Nat} (hi : infoOf P t = some (k, b)) : tyOf P t = some .agg ∨ (∃ y, tyOf P t = some (.one y)) ∧ k = 1 := by
  cases d with
  | zero => simp [eqCells] at h
  | succ d =>
    simp only [eqCells] at h
    unfold tyOf
    split at h
    · rename_i k' hu; rw [hu]; rw [hi] at h; simp at h; exact .inr ⟨⟨_, rfl⟩, h.1⟩
    · rename_i hu; rw [hu]; rw [hi] at h; simp at h; exact .inr ⟨⟨_, rfl⟩, h.1⟩
    · rename_i hu; rw [hu]; rw [hi] at h; simp at h; exact .inr ⟨⟨_, rfl⟩, h.1⟩
    · rename_i hu; rw [hu]; exact .inl rfl
    · rename_i hu; rw [hu]; exact .inl rfl
    · cases h

theorem cellEq_run (d : Nat) {n : Nat} {t : TypeId} {T : Ty} (ht : P.underlying t = some (match T with | .int k => .int k | .bool => .bool | .str => .string | .other => .invalid)) {v u : AV} {x y : Value} (hv : VR n m v x) (hu : VR n m u y) {r : Bool} (h : cellEq T v u = some r) :
    (Op.equalIn (d + 1) t x y).run P w = .ok r w := by
  unfold cellEq at h
  split at h
  · split at h
    · rename_i hk; subst hk
      cases h
      simp only [VR] at hv hu; subst hv; subst hu
      simp [Op.equalIn, run_underlying ht]
    · cases h
  · cases h; simp only [VR] at hv hu; subst hv; subst hu; simp [Op.equalIn, run_underlying ht]
  · cases h
    simp only [VR] at hv hu; subst hv; subst hu
    simp only [Op.equalIn, Sem.run_bind, run_underlying ht, Result.andThen_ok, Sem.run_pure]
    rw [beq_toListBytes, mk_toList, mk_toList]
  · cases h

theorem eq_run : ∀ (d D : Nat) (n : Nat) (t : TypeId) (l : List (Nat × Ty)) (A A' : List AV) (x y : Value) (r : Bool), eqCells P d t = some l → PartR P n m t A x → PartR P n m t A' y → cellsEq l A A' = some r →
    (Op.equalIn (d + D) t x y).run P w = .ok r w
  | 0, _, _, _, _, _, _, _, _, _, h, _, _, _ => by simp [eqCells] at h
  | d + 1, D, n, t, l, A, A', x, y, r, h, hx, hy, he => by
    have hty := fun k b (hi : infoOf P t = some (k, b)) => eqCells_ty h hi
    rw [show d + 1 + D = (d + D) + 1 by omega]
    obtain ⟨⟨b1, hi1⟩, hx⟩ := hx
    obtain ⟨⟨b2, hi2⟩, hy⟩ := hy
    have scal : ∀ T : Ty, P.underlying t = some (match T with | .int k => .int k | .bool => .bool | .str => .string | .other => .invalid) → (∃ y, tyOf P t = some (.one y)) → l = [(0, T)] → (Op.equalIn (d + D + 1) t x y).run P w = .ok r w := fun T hu ht hl => by
      subst hl
      rcases hx with ⟨hx, _⟩ | ⟨_, v, rfl, hv⟩
      · obtain ⟨q, hq⟩ := ht; rw [hq] at hx; cases hx
      rcases hy with ⟨hy, _⟩ | ⟨_, u, rfl, hu'⟩
      · obtain ⟨q, hq⟩ := ht; rw [hq] at hy; cases hy
      simp only [cellsEq, List.getElem?_cons_zero] at he
      cases hc : cellEq T v u with
      | none => rw [hc] at he; cases he
      | some q =>
        have : q = r := by rw [hc] at he; cases q <;> simpa using he
        subst this
        exact cellEq_run (d + D) hu hv hu' hc
    simp only [eqCells] at h
    split at h
    · rename_i k hu
      split at h
      · cases h; exact scal (.int k) hu ⟨_, by unfold tyOf; rw [hu]⟩ rfl
      · cases h
    · rename_i hu
      split at h
      · cases h; exact scal .bool hu ⟨_, by unfold tyOf; rw [hu]⟩ rfl
      · cases h
    · rename_i hu
      split at h
      · cases h; exact scal .str hu ⟨_, by unfold tyOf; rw [hu]⟩ rfl
      · cases h
    · rename_i fs hu
      have hta : tyOf P t = some .agg := by unfold tyOf; rw [hu]
      split at h
      · cases h
      · rename_i hst
        rcases hx with ⟨_, X, rfl, hX⟩ | ⟨⟨q, hq⟩, _⟩
        case inr => rw [hta] at hq; cases hq
        rcases hy with ⟨_, Y, rfl, hY⟩ | ⟨⟨q, hq⟩, _⟩
        case inr => rw [hta] at hq; cases hq
        have hfo : P.fieldsOf t = fs := by unfold Program.fieldsOf; rw [hu]
        rw [run_equalIn_struct w (d + D) t X Y (by rw [hfo]; exact hu) (by simpa using hst), hfo]
        rw [hi1] at h
        simp only [Option.map_some] at h
        have hlen : A'.length = A.length := by rw [hi1] at hi2; simpa using (Prod.mk.inj (Option.some.inj hi2)).1.symm
        clear hu hta hst hfo scal hty
        generalize fs.toList = fl at h
        induction fl generalizing l with
        | nil => simp only [eqFields] at h; cases h; simp only [cellsEq] at he; cases he; simp [Op.eqFields]
        | cons f fl ih =>
          simp only [eqFields] at h
          split at h
          · cases h
          · rename_i r' hr'
            split at h
            · rename_i hname
              cases h
              have : f.name = "_" := by simpa using hname
              simp only [Op.eqFields, this, ne_eq, not_true_eq_false, if_false]
              exact ih _ he hr'
            · rename_i hname
              have hne : f.name ≠ "_" := by simpa using hname
              split at h
              · rename_i l1 k1 c1 size h1 h2 h3
                cases h3
                split at h
                · rename_i hle
                  cases h
                  rw [cellsEq_append] at he
                  have hlt := eqCells_lt d f.type l1 k1 c1 h1 h2
                  rw [show (l1.map fun x => match x with | (i, t) => (f.offset + i, t)) = l1.map fun p => (f.offset + p.1, p.2) from rfl, cellsEq_part hlt] at he
                  obtain ⟨x1, hx1, px⟩ := part_sub (P := P) (w := w) h2 (eqCells_ty h1 h2) hX (off := f.offset) hle
                  obtain ⟨y1, hy1, py⟩ := part_sub (P := P) (w := w) h2 (eqCells_ty h1 h2) hY (off := f.offset) (by omega)
                  simp only [Op.eqFields, ne_eq, hne, not_false_eq_true, if_true, Sem.run_bind, hx1, hy1, Result.andThen_ok]
                  cases hc : cellsEq l1 ((A.drop f.offset).take k1) ((A'.drop f.offset).take k1) with
                  | none => rw [hc] at he; cases he
                  | some q =>
                    rw [eq_run d D n f.type l1 _ _ x1 y1 q h1 px py hc]
                    rw [hc] at he
                    cases q with
                    | true => simp only [Result.andThen_ok, Bool.not_true, Bool.false_eq_true, if_false]; exact ih _ he hr'
                    | false => simp only at he; cases he; simp
                · cases h
              · cases h
    · rename_i k e hu
      have hta : tyOf P t = some .agg := by unfold tyOf; rw [hu]
      split at h
      · rename_i l1 es c1 size c2 h1 h2 h3
        rw [hi1] at h3; cases h3
        split at h
        · rename_i hle
          cases h
          rcases hx with ⟨_, X, rfl, hX⟩ | ⟨⟨q, hq⟩, _⟩
          case inr => rw [hta] at hq; cases hq
          rcases hy with ⟨_, Y, rfl, hY⟩ | ⟨⟨q, hq⟩, _⟩
          case inr => rw [hta] at hq; cases hq
          have hlen : A'.length = A.length := by rw [hi1] at hi2; simpa using (Prod.mk.inj (Option.some.inj hi2)).1.symm
          obtain ⟨inf, g1, g2, _⟩ := infoOf_some h2
          rw [run_equalIn_array w (d + D) X Y hu g1]
          have hce : P.cellsOf e = es := by simp [Program.cellsOf, g1, g2]
          rw [hce]
          have hlt := eqCells_lt d e l1 es c1 h1 h2
          have hin : ∀ j, j ∈ List.range k → j * es + es ≤ A.length := fun j hj => by
            have hj' : j < k := by simpa using hj
            have h5 : (j + 1) * es ≤ k * es := Nat.mul_le_mul_right _ hj'
            rw [Nat.add_mul, Nat.one_mul] at h5
            omega
          clear hta hle scal hty
          generalize List.range k = js at he hin
          induction js with
          | nil => simp only [List.flatMap_nil, cellsEq] at he; cases he; simp [Op.eqItems]
          | cons j js ih =>
            rw [List.flatMap_cons, cellsEq_append, show (l1.map fun x => match x with | (a, t) => (j * es + a, t)) = l1.map fun p => (j * es + p.1, p.2) from rfl, cellsEq_part hlt] at he
            have hj := hin j (by simp)
            obtain ⟨x1, hx1, px⟩ := part_sub (P := P) (w := w) h2 (eqCells_ty h1 h2) hX (off := j * es) hj
            obtain ⟨y1, hy1, py⟩ := part_sub (P := P) (w := w) h2 (eqCells_ty h1 h2) hY (off := j * es) (by omega)
            simp only [Op.eqItems, Sem.run_bind, hx1, hy1, Result.andThen_ok]
            cases hc : cellsEq l1 ((A.drop (j * es)).take es) ((A'.drop (j * es)).take es) with
            | none => rw [hc] at he; cases he
            | some q =>
              rw [eq_run d D n e l1 _ _ x1 y1 q h1 px py hc]
              rw [hc] at he
              cases q with
              | true => simp only [Result.andThen_ok, Bool.not_true, Bool.false_eq_true, if_false]; exact ih he fun i hi => hin i (by simp [hi])
              | false => simp only at he; cases he; simp
        · cases h
      · cases h
    · cases h

theorem guard_agg (op : BinOp) {t : TypeId} (x y : Operand) (X Y : Array Value) (h : P.eqGuardType P.depth t = false) : (eqGuard op t x y (.agg X) (.agg Y)).run P w = .ok () w := by
  cases op <;> simp [eqGuard, h]

theorem ok_aeq (E : EnvR H.length m env a) (R : Rel W0 m H w) {ng : Bool} {t : TypeId} (hg : P.eqGuardType P.depth t = false) {l : List (Nat × Ty)} (hl : eqCells P 12 t = some l) {n b : Nat} (hi : infoOf P t = some (n, b)) (hty : tyOf P t = some .agg) {x y : Operand} {x' y' : Opd} (hx : opd x = some x') (hy : opd y = some y')
    (h : opK env x' fun v => opK env y' fun u => match v, u with
    | .agg xs, .agg ys => if xs.length = n ∧ ys.length = n then ob (cellsEq l xs ys) fun b => bs (if ng then !b else b) (K (.bool true) H) (K (.bool false) H) else False
    | _, _ => False) :
    VOk P W0 m H w K (do eqGuard (if ng then .neq else .eql) t x y (a.eval x) (a.eval y); binOp (if ng then .neq else .eql) t (a.eval x) (a.eval y)) := by
  obtain ⟨v, ha, hv⟩ := opd_ok E hx h
  obtain ⟨u, hb, hu⟩ := opd_ok E hy ha
  split at hb
  · rename_i xs ys
    split at hb
    · rename_i hlen
      obtain ⟨r, hr, hk⟩ := ob_iff.1 hb
      simp only [VR] at hv hu
      obtain ⟨_, X, hv, hX⟩ := hv
      obtain ⟨_, Y, hu, hY⟩ := hu
      rw [hv, hu]
      have heq : (Op.equal t (.agg X) (.agg Y)).run P w = .ok r w :=
        eq_run 12 9988 H.length t l xs ys (.agg X) (.agg Y) r hl ⟨⟨b, by rw [hlen.1]; exact hi⟩, .inl ⟨hty, X, rfl, hX⟩⟩ ⟨⟨b, by rw [hlen.2]; exact hi⟩, .inl ⟨hty, Y, rfl, hY⟩⟩ hr
      have hgd := fun op => guard_agg (P := P) (w := w) op x y X Y hg
      cases ng
      · exact VOk.bool R (bs_imp2 hk) (by simp [hgd, binOp, heq])
      · exact VOk.bool R (bs_imp2 hk) (by simp [hgd, binOp, heq])
    · exact hb.elim
  · exact hb.elim

end

end Go.Am
