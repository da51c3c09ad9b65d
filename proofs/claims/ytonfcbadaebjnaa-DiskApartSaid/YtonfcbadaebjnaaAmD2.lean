/- A region that draws its order, objects being made early: the relation while some are pending. -/
import Derived.Test.YtonfcbadaebjnaaAmD1
namespace Go.Am
open Go Go.RowKit

section
variable {P : Program} {B : Base} {W0 : Bw} {call : CallK}

theorem wp_G {o : Oper} {a : Act} {w : World} {G : Prop} (h : o.wp P a w (fun _ _ => G) (fun _ _ _ => False)) : G := by
  unfold Oper.wp at h
  generalize (execOp a.eval o).run P w = r at h
  unfold Oper.upon at h
  split at h
  · exact h
  · exact h
  · exact h
  · obtain ⟨e, w', fr, hr, _⟩ := h []
    cases e with
    | returned v => exact hr
    | panicked c => exact hr.elim
    | outgrown => obtain ⟨_, _, hx⟩ := hr; exact hx.elim
  · obtain ⟨v, w', hr, _⟩ := h (Frame.enter P 0 #[] .normal) []
    exact hr
  · exact h.elim
  · exact h.elim

theorem stepK_form {s : AStep} {env : Env} {H : Heap} {K : Env → Heap → Prop} :
    stepK B call s env H (fun e h => (∃ v, e = setD env s.dst v) ∧ K e h) = stepK B call s env H K := by
  have h : ∀ v H', resK env s.dst v H' (fun e h => (∃ v, e = setD env s.dst v) ∧ K e h) = resK env s.dst v H' K := fun v H' => by
    rw [resK_setD, resK_setD]; exact propext ⟨fun h => h.2, fun h => ⟨⟨v, rfl⟩, h⟩⟩
  unfold stepK
  simp only [h]

theorem Opd.look_setD {s : AStep} {x : Opd} (hx : x ∈ s.ins.reads) {d : Option Nat} (h : s.free d = true) (env : Env) (u : AV) : x.look (setD env d u) = x.look env := by
  cases d with
  | none => rfl
  | some d => exact Opd.look_set ((looksAt_false (by simpa [AStep.free] using h)).1 x hx) env u
theorem newCells_setD {s : AStep} {o : AOp} (ho : s.ins = .op o) {d : Option Nat} (h : s.free d = true) (env : Env) (u : AV) : newCells (setD env d u) o = newCells env o :=
  newCells_cong fun x hx => Opd.look_setD (s := s) (by rw [ho]; exact hx) h env u

/-! ### Slots of what is pending -/
def pval (L : List AStep) (ip : Nat × Plc) : AV :=
  match (drawStep L ip.1).ins with
  | .op o => newVal o (.base ip.2.blk (65536 * ip.2.base))
  | _ => .dead
def setP (L : List AStep) : List (Nat × Plc) → Env → Env
  | [], e => e
  | ip :: r, e => setD (setP L r e) (drawStep L ip.1).dst (pval L ip)
variable {L : List AStep}

theorem setP_mid {ip : Nat × Plc} {p2 : List (Nat × Plc)} {env : Env} : ∀ {p1 : List (Nat × Plc)}, (∀ jp ∈ p1, ∀ t, (drawStep L jp.1).dst = some t → (drawStep L ip.1).dst ≠ some t) →
    setP L (p1 ++ ip :: p2) env = setD (setP L (p1 ++ p2) env) (drawStep L ip.1).dst (pval L ip)
  | [], _ => rfl
  | jp :: r, h => by
    simp only [List.cons_append, setP]
    rw [setP_mid fun x hx => h x (List.mem_cons_of_mem _ hx)]
    exact (setD_comm _ (h jp (List.mem_cons_self ..)) _ _).symm
theorem setP_setD {d : Option Nat} {v : AV} {env : Env} : ∀ {pd : List (Nat × Plc)}, (∀ jp ∈ pd, ∀ t, (drawStep L jp.1).dst = some t → d ≠ some t) → setP L pd (setD env d v) = setD (setP L pd env) d v
  | [], _ => rfl
  | jp :: r, h => by
    simp only [setP]
    rw [setP_setD fun x hx => h x (List.mem_cons_of_mem _ hx)]
    exact (setD_comm _ (h jp (List.mem_cons_self ..)) _ _).symm
theorem stepK_setP {s : AStep} {env : Env} {H : Heap} : ∀ {pd : List (Nat × Plc)} {K : Env → Heap → Prop}, (∀ ip ∈ pd, s.free (drawStep L ip.1).dst = true ∧ ∀ t, (drawStep L ip.1).dst = some t → s.dst ≠ some t) →
    stepK B call s (setP L pd env) H K = stepK B call s env H (fun e h => K (setP L pd e) h)
  | [], _, _ => rfl
  | ip :: r, K, h => by
    simp only [setP]
    rw [stepK_setD (h ip (List.mem_cons_self ..)).1 (h ip (List.mem_cons_self ..)).2, stepK_setP fun x hx => h x (List.mem_cons_of_mem _ hx)]
theorem newCells_setP {s : AStep} {o : AOp} (ho : s.ins = .op o) {env : Env} : ∀ {pd : List (Nat × Plc)}, (∀ ip ∈ pd, s.free (drawStep L ip.1).dst = true) → newCells (setP L pd env) o = newCells env o
  | [], _ => rfl
  | ip :: r, h => by
    simp only [setP]
    rw [newCells_setD ho (h ip (List.mem_cons_self ..)), newCells_setP ho fun x hx => h x (List.mem_cons_of_mem _ hx)]

theorem EnvR.swap {n n' : Nat} {m m' : Plcs} {e : Env} {d : Option Nat} {u v : AV} {a : Act} (hn : n ≤ n') (hm : ∀ k, k < n → m k = m' k) (hv : ∀ x, VR n m u x → VR n' m' v x) (E : EnvR n m (setD e d u) a) : EnvR n' m' (setD e d v) a := by
  cases d with
  | none => exact ⟨E.1, fun t w hw => VR_mono hn hm _ _ (E.2 t w hw)⟩
  | some d =>
    refine ⟨E.1, fun t w hw => ?_⟩
    simp only [setD] at hw E
    by_cases ht : t = d
    · subst ht
      have := E.2 t
      rw [Env.upd_self] at hw this
      cases hb : Nat.blt t e.n with
      | false => rw [hb] at hw; cases hw
      | true =>
        rw [hb] at hw this
        simp only [cond_true, Option.some.injEq] at hw this
        subst hw
        exact hv _ (this u rfl)
    · have := E.2 t w
      rw [Env.upd_ne ht] at hw this
      exact VR_mono hn hm _ _ (this hw)

/-! ### The relation -/
theorem ObjR.re {n : Nat} {B0 B1 : Nat → Prop} {m : Plcs} {w : World} {k : Nat} {o : AObj} (hb : o.live = true → ¬ B1 (m k).blk) (h : ObjR n B0 m w k o) : ObjR n B1 m w k o := by
  cases o with
  | var c => exact ⟨hb rfl, h.2⟩
  | arr c => exact ⟨hb rfl, h.2⟩
  | map es clock => exact ⟨hb rfl, h.2⟩
  | iter o since seen last => exact ⟨hb rfl, h.2⟩
  | gone => trivial

def keptP (W0 : Bw) (pd : List (Nat × Plc)) : Nat → Prop := fun b => W0.kept b ∨ ∃ ip ∈ pd, ip.2.blk = b

structure RelP (W0 : Bw) (pd : List (Nat × Plc)) (m : Plcs) (H : Heap) (w : World) : Prop where
  keeps : Keeps W0 w
  lt : ∀ ip ∈ pd, ip.2.blk < w.heap.size
  objs : ∀ k o, H[k]? = some o → ObjR H.length (keptP W0 pd) m w k o
  inj : ∀ k l o o', H[k]? = some o → H[l]? = some o' → o.live = true → o'.live = true → k ≠ l → (m k).blk ≠ (m l).blk

variable {pd : List (Nat × Plc)} {m m' : Plcs} {H H' : Heap} {w w' : World}

theorem RelP.klt (R : RelP W0 pd m H w) : ∀ b, keptP W0 pd b → b < w.heap.size := fun b hb => by
  rcases hb with hb | ⟨ip, h1, h2⟩
  · exact R.keeps.lt hb
  · exact h2 ▸ R.lt ip h1
def RelP.bw (R : RelP W0 pd m H w) : Bw := ⟨w, keptP W0 pd, R.klt⟩
theorem RelP.rel (R : RelP W0 pd m H w) : Rel R.bw m H w := ⟨⟨rfl, rfl, rfl, Nat.le_refl _, fun _ _ => rfl⟩, R.objs, R.inj⟩
theorem RelP.base (hB : BaseOk B W0) (R : RelP W0 pd m H w) : BaseOk B R.bw := ⟨fun b s cs h => by
  obtain ⟨h1, hk, c, e, f, hc, h2⟩ := hB.cells b s cs h
  exact ⟨h1, .inl hk, c, e, f, (R.keeps.block b hk).trans hc, h2⟩⟩
theorem RelP.keeps' (R : RelP W0 pd m H w) (R' : Rel R.bw m' H' w') : Keeps W0 w' :=
  R.keeps.trans R'.below.os R'.below.tape R'.below.output R'.below.size fun k hk => R'.below.block k (.inl hk)
theorem RelP.back (R : RelP W0 pd m H w) (R' : Rel R.bw m' H' w') : RelP W0 pd m' H' w' :=
  ⟨R.keeps' R', fun ip h => Nat.lt_of_lt_of_le (R.lt ip h) R'.below.size, R'.objs, R'.inj⟩
theorem RelP.nil (R : RelP W0 [] m H w) : Rel W0 m H w :=
  ⟨R.keeps, fun k o h => (R.objs k o h).re fun hl hb => (R.objs k o h).ge hl (.inl hb), R.inj⟩
theorem Rel.relP (R : Rel W0 m H w) : RelP W0 [] m H w :=
  ⟨R.below, by simp, fun k o h => (R.objs k o h).re fun hl hb => (by
    rcases hb with hb | ⟨ip, h1, _⟩
    · exact (R.objs k o h).ge hl hb
    · cases h1), R.inj⟩

theorem getElem?_lt {α : Type} {l : List α} {i : Nat} {x : α} (h : l[i]? = some x) : i < l.length := by
  rcases Nat.lt_or_ge i l.length with h' | h'
  · exact h'
  · rw [List.getElem?_eq_none h'] at h; cases h

/-- The newest object is put upon the ground. -/
theorem RelP.freeze (R : RelP W0 pd m H w) {ob : AObj} (R' : Rel R.bw m' (H ++ [ob]) w') (hl : ob.live = true) (i : Nat) : RelP W0 ((i, m' H.length) :: pd) m' H w' := by
  have hlast : (H ++ [ob])[H.length]? = some ob := by simp
  have C : Cln 0 (fun k => k) (H ++ [ob]) H := ⟨Nat.zero_le _, fun _ _ => rfl, fun _ _ _ _ h => h, fun j o2 h => .inr ⟨o2, by rw [List.getElem?_append_left (getElem?_lt h)]; exact h, R.rel.low j o2 h⟩⟩
  have R2 : Rel R.bw m' H w' := R'.clean C
  refine ⟨R.keeps' R', fun ip h => ?_, fun k o h => (R2.objs k o h).re fun ho hb => ?_, R2.inj⟩
  · rcases List.mem_cons.1 h with rfl | h
    · exact (R'.objs _ _ hlast).lt hl
    · exact Nat.lt_of_lt_of_le (R.lt ip h) R'.below.size
  · rcases hb with hb | ⟨ip, h1, h2⟩
    · exact (R2.objs k o h).ge ho (.inl hb)
    · rcases List.mem_cons.1 h1 with rfl | h1
      · have hk := getElem?_lt h
        exact R'.inj k H.length o ob (by rw [List.getElem?_append_left hk]; exact h) hlast ho hl (by omega) h2.symm
      · exact (R2.objs k o h).ge ho (.inr ⟨ip, h1, h2⟩)

/-- An object is taken off the ground. -/
theorem RelP.thaw {p1 p2 : List (Nat × Plc)} {i : Nat} {q : Plc} (R : RelP W0 (p1 ++ (i, q) :: p2) m H w) (hk : ¬ W0.kept q.blk) (hd : ∀ jp ∈ p1 ++ p2, jp.2.blk ≠ q.blk) {o : AOp} {c : List AV} (ho : PObj H.length m w q (newVar o) c) :
    RelP W0 (p1 ++ p2) (upd m H.length q) (H ++ [newObj o c]) w := by
  have hsub : ∀ b, keptP W0 (p1 ++ p2) b → keptP W0 (p1 ++ (i, q) :: p2) b := fun b hb => by
    rcases hb with hb | ⟨ip, h1, h2⟩
    · exact .inl hb
    · refine .inr ⟨ip, ?_, h2⟩
      rcases List.mem_append.1 h1 with h | h
      · exact List.mem_append_left _ h
      · exact List.mem_append_right _ (List.mem_cons_of_mem _ h)
  have hq : keptP W0 (p1 ++ (i, q) :: p2) q.blk := .inr ⟨(i, q), by simp, rfl⟩
  have hnq : ¬ keptP W0 (p1 ++ p2) q.blk := fun hb => by
    rcases hb with hb | ⟨ip, h1, h2⟩
    · exact hk hb
    · exact hd ip h1 h2
  have hE := Ext.upd m H q (newObj o c)
  have split : ∀ {k : Nat} {x : AObj}, (H ++ [newObj o c])[k]? = some x → (k < H.length ∧ H[k]? = some x) ∨ (k = H.length ∧ x = newObj o c) := fun {k x} h => by
    rcases Nat.lt_trichotomy k H.length with h' | h' | h'
    · rw [List.getElem?_append_left h'] at h; exact .inl ⟨h', h⟩
    · subst h'; simp at h; exact .inr ⟨rfl, h.symm⟩
    · rw [List.getElem?_eq_none (by simp; omega)] at h; cases h
  refine ⟨R.keeps, fun ip h => R.lt ip ?_, fun k x h => ?_, fun k l x y h1 h2 hx hy hne => ?_⟩
  · rcases List.mem_append.1 h with h | h
    · exact List.mem_append_left _ h
    · exact List.mem_append_right _ (List.mem_cons_of_mem _ h)
  · rcases split h with ⟨hlt, h⟩ | ⟨rfl, rfl⟩
    · have h0 := R.objs k x h
      have := ObjR_mono (n' := (H ++ [newObj o c]).length) (m' := upd m H.length q) (w' := w) (by simp) hlt hE.same (fun _ => rfl) h0
      exact this.re fun hl hb => this.ge hl (hsub _ hb)
    · exact ho.obj (upd_same ..) hnq (by simp) hE.same
  · rcases split h1 with ⟨hlt1, h1⟩ | ⟨rfl, rfl⟩
    · rcases split h2 with ⟨hlt2, h2⟩ | ⟨rfl, rfl⟩
      · rw [upd_other m q (by omega), upd_other m q (by omega)]
        exact R.inj k l x y h1 h2 hx hy hne
      · rw [upd_other m q (by omega), upd_same]
        exact fun e => (R.objs k x h1).ge hx (e ▸ hq)
    · rcases split h2 with ⟨hlt2, h2⟩ | ⟨rfl, rfl⟩
      · rw [upd_same, upd_other m q (by omega)]
        exact fun e => (R.objs l y h2).ge hy (e ▸ hq)
      · exact absurd rfl hne
end
end Go.Am
