/- What a step reads; observers; a region that draws its order. -/
import Derived.Test.YtonfcbadaebjnaaAmM
namespace Go.Am
open Go Go.RowKit

/-! ### Slots that are not read -/
theorem Opd.look_set {x : Opd} {d : Nat} (h : x.isSlot d = false) (env : Env) (u : AV) : x.look (env.upd d u) = x.look env := by
  cases x with
  | tmp t =>
    have hne : d ≠ t := by intro e; subst e; simp [Opd.isSlot] at h
    simp [Opd.look, Env.upd_ne (Ne.symm hne)]
  | _ => rfl

section
variable {env env' : Env}

theorem opsK_cong : ∀ {l : List Opd} (_ : ∀ x ∈ l, x.look env' = x.look env) (K : List AV → Prop), opsK env' l K = opsK env l K
  | [], _, _ => rfl
  | x :: r, h, K => by
    simp only [opsK, opK, h x (List.mem_cons_self ..)]
    congr 1; funext v
    exact opsK_cong (fun y hy => h y (List.mem_cons_of_mem _ hy)) _
theorem partsK_cong : ∀ {l : List (Nat × Nat × Opd)} (_ : ∀ x ∈ l.map (·.2.2), x.look env' = x.look env) (K : List (Nat × Nat × AV) → Prop), partsK env' l K = partsK env l K
  | [], _, _ => rfl
  | (i, n, x) :: r, h, K => by
    simp only [partsK, opK, h x (by simp)]
    congr 1; funext v
    exact partsK_cong (fun y hy => h y (List.mem_cons_of_mem _ hy)) _
theorem intsK_cong {k : IntKind} : ∀ {l : List Opd} (_ : ∀ x ∈ l, x.look env' = x.look env) (K : List Int → Prop), intsK env' k l K = intsK env k l K
  | [], _, _ => rfl
  | x :: r, h, K => by
    simp only [intsK, opK, h x (List.mem_cons_self ..)]
    congr 1; funext v; congr 1; funext n
    exact intsK_cong (fun y hy => h y (List.mem_cons_of_mem _ hy)) _
theorem strsK_cong : ∀ {l : List Opd} (_ : ∀ x ∈ l, x.look env' = x.look env) (K : List (List UInt8) → Prop), strsK env' l K = strsK env l K
  | [], _, _ => rfl
  | x :: r, h, K => by
    simp only [strsK, opK, h x (List.mem_cons_self ..)]
    congr 1; funext v; congr 1; funext n
    exact strsK_cong (fun y hy => h y (List.mem_cons_of_mem _ hy)) _
theorem optK_cong {d : Int} {x : Option Opd} (h : ∀ y ∈ optL x, y.look env' = y.look env) (K : Int → Prop) : optK env' d x K = optK env d x K := by
  cases x with
  | none => rfl
  | some x => simp only [optK, opK, h x (by simp [optL])]

theorem aop_cong {B : Base} {H : Heap} {K : AV → Heap → Prop} (o : AOp) (h : ∀ x ∈ o.reads, x.look env' = x.look env) : aop B env' H K o = aop B env H K o := by
  cases o
  case build z ps => simp only [aop]; exact partsK_cong (by simpa [AOp.reads] using h) _
  case buildSlice es len z ps => simp only [aop]; exact partsK_cong (by simpa [AOp.reads] using h) _
  case makeFunc fn fs cs =>
    simp only [AOp.reads, List.mem_append] at h
    simp only [aop]
    rw [opsK_cong (fun x hx => h x (.inl hx))]
    congr 1; funext a
    exact opsK_cong (fun x hx => h x (.inr hx)) _
  case sliceS x lo hi =>
    simp only [AOp.reads, List.mem_cons, List.mem_append] at h
    simp only [aop, opK, h x (.inl rfl), optK_cong (fun y hy => h y (.inr (.inl hy))), optK_cong (fun y hy => h y (.inr (.inr hy)))]
  case sliceL es x lo hi mx =>
    simp only [AOp.reads, List.mem_cons, List.mem_append] at h
    cases mx with
    | none => simp only [aop, opK, h x (.inl rfl), optK_cong (fun y hy => h y (.inr (.inl hy))), optK_cong (fun y hy => h y (.inr (.inr (.inl hy))))]
    | some m => simp only [aop, opK, h x (.inl rfl), h m (.inr (.inr (.inr (by simp [optL])))), optK_cong (fun y hy => h y (.inr (.inl hy))), optK_cong (fun y hy => h y (.inr (.inr (.inl hy))))]
  case sliceA n es x lo hi =>
    simp only [AOp.reads, List.mem_cons, List.mem_append] at h
    simp only [aop, opK, h x (.inl rfl), optK_cong (fun y hy => h y (.inr (.inl hy))), optK_cong (fun y hy => h y (.inr (.inr hy)))]
  case minI k l => simp only [aop]; exact intsK_cong h _
  case maxI k l => simp only [aop]; exact intsK_cong h _
  case minS l => simp only [aop]; exact strsK_cong h _
  case maxS l => simp only [aop]; exact strsK_cong h _
  all_goals
    simp only [AOp.reads, List.mem_cons, List.not_mem_nil, or_false, forall_eq_or_imp, forall_eq] at h
    simp only [aop, opK, h]
end

theorem calleeK_cong {B : Base} {env env' : Env} {H : Heap} {as : List AV} {K : FuncId → List AV → Prop} (c : ACallee) (h : ∀ x ∈ c.reads, x.look env' = x.look env) : calleeK B env' H as K c = calleeK B env H as K c := by
  cases c <;> simp only [ACallee.reads, List.mem_cons, List.not_mem_nil, or_false, forall_eq] at h <;> simp only [calleeK, opK, h]

theorem insK_cong {B : Base} {call : CallK} {env env' : Env} {H : Heap} {K : AV → Heap → Prop} (i : AIns) (h : ∀ x ∈ i.reads, x.look env' = x.look env) : insK B call env' H K i = insK B call env H K i := by
  cases i with
  | op o => exact aop_cong o h
  | call c as ty =>
    simp only [AIns.reads, List.mem_append] at h
    simp only [insK]
    rw [opsK_cong (fun x hx => h x (.inl hx))]
    congr 1; funext vs
    exact calleeK_cong c (fun x hx => h x (.inr hx))
  | next x =>
    simp only [AIns.reads, List.mem_singleton, forall_eq] at h
    simp only [insK, nextK, opK, h]
  | entry x =>
    simp only [AIns.reads, List.mem_singleton, forall_eq] at h
    simp only [insK, entryK, opK, h]
  | bad n => rfl

def setD (env : Env) (d : Option Nat) (v : AV) : Env :=
  match d with
  | some t => env.upd t v
  | none => env

theorem resK_setD (env : Env) (d : Option Nat) (v : AV) (H : Heap) (K : Env → Heap → Prop) : resK env d v H K = K (setD env d v) H := by cases d <;> rfl

theorem looksAt_false {s : AStep} {d : Nat} (h : s.looksAt d = false) : (∀ x ∈ s.ins.reads, x.isSlot d = false) ∧ (∀ j b, s.guard = some (some j, b) → j ≠ d) := by
  unfold AStep.looksAt at h
  rw [Bool.or_eq_false_iff] at h
  refine ⟨fun x hx => ?_, fun j b hg => ?_⟩
  · have := h.1
    rw [List.any_eq_false] at this
    simpa using this x hx
  · have := h.2
    rw [hg] at this
    simpa using this

section
variable {B : Base} {call : CallK} {H : Heap}

/-- A step that does not look at a slot: the slot set before, or after. -/
theorem stepK_set {s : AStep} {env : Env} {d : Nat} {u : AV} {K : Env → Heap → Prop} (hd : s.looksAt d = false) (hdst : s.dst ≠ some d) :
    stepK B call s (env.upd d u) H K = stepK B call s env H (fun e h => K (e.upd d u) h) := by
  obtain ⟨hr, hg⟩ := looksAt_false hd
  have hl : ∀ x ∈ s.ins.reads, x.look (env.upd d u) = x.look env := fun x hx => Opd.look_set (hr x hx) env u
  have hres : ∀ v H', resK (env.upd d u) s.dst v H' K = resK env s.dst v H' (fun e h => K (e.upd d u) h) := fun v H' => by
    cases hs : s.dst with
    | none => rfl
    | some t =>
      have : d ≠ t := by intro e; subst e; exact hdst hs
      simp only [resK, Env.upd_comm _ this]
  have hres' : (fun v H' => resK (env.upd d u) s.dst v H' K) = (fun v H' => resK env s.dst v H' (fun e h => K (e.upd d u) h)) := funext fun v => funext fun H' => hres v H'
  unfold stepK
  split
  · rw [hres', insK_cong _ hl]
  · rfl
  · rename_i j want hgd
    rw [Env.upd_ne (hg j want hgd), hres', hres, insK_cong _ hl]

theorem stepK_set_self {s : AStep} {env : Env} {d : Nat} {u : AV} {K : Env → Heap → Prop} (hd : s.looksAt d = false) (hdst : s.dst = some d) :
    stepK B call s (env.upd d u) H K = stepK B call s env H K := by
  obtain ⟨hr, hg⟩ := looksAt_false hd
  have hl : ∀ x ∈ s.ins.reads, x.look (env.upd d u) = x.look env := fun x hx => Opd.look_set (hr x hx) env u
  have hres : ∀ v H', resK (env.upd d u) s.dst v H' K = resK env s.dst v H' K := fun v H' => by
    rw [hdst]; simp only [resK, Env.upd_upd]
  have hres' : (fun v H' => resK (env.upd d u) s.dst v H' K) = (fun v H' => resK env s.dst v H' K) := funext fun v => funext fun H' => hres v H'
  unfold stepK
  split
  · rw [hres', insK_cong _ hl]
  · rfl
  · rename_i j want hgd
    rw [Env.upd_ne (hg j want hgd), hres', hres, insK_cong _ hl]

theorem stepK_setD {s : AStep} {env : Env} {d : Option Nat} {u : AV} {K : Env → Heap → Prop} (hd : s.free d = true) (hdst : ∀ t, d = some t → s.dst ≠ some t) :
    stepK B call s (setD env d u) H K = stepK B call s env H (fun e h => K (setD e d u) h) := by
  cases d with
  | none => rfl
  | some d => exact stepK_set (by simpa [AStep.free] using hd) (hdst d rfl)

theorem stepK_setD_self {s : AStep} {env : Env} {u : AV} {K : Env → Heap → Prop} (hd : s.free s.dst = true) :
    stepK B call s (setD env s.dst u) H K = stepK B call s env H K := by
  cases hs : s.dst with
  | none => rfl
  | some d =>
    rw [hs] at hd
    exact stepK_set_self (by simpa [AStep.free] using hd) hs

/-! ### Observers -/
/-- It tells one thing. -/
def Fn1 {α : Type} (F : (α → Prop) → Prop) : Prop := ∀ K, F K → ∃ a, K a ∧ ∀ K', K' a → F K'
def FnH (H : Heap) (F : (AV → Heap → Prop) → Prop) : Prop := ∀ K, F K → ∃ v, K v H ∧ ∀ K' : AV → Heap → Prop, K' v H → F K'

theorem FnH.ret {H : Heap} (v : AV) : FnH H fun K => K v H := fun _ h => ⟨v, h, fun _ h => h⟩
theorem FnH.no {H : Heap} : FnH H fun _ => False := fun _ h => h.elim
theorem Fn1.bind {α : Type} {H : Heap} {F : (α → Prop) → Prop} {G : α → (AV → Heap → Prop) → Prop} (hF : Fn1 F) (hG : ∀ a, FnH H (G a)) : FnH H fun K => F fun a => G a K := fun K h => by
  obtain ⟨a, h1, h2⟩ := hF _ h
  obtain ⟨v, h3, h4⟩ := hG a K h1
  exact ⟨v, h3, fun K' hk => h2 _ (h4 K' hk)⟩
theorem Fn1.bind1 {α β : Type} {F : (α → Prop) → Prop} {G : α → (β → Prop) → Prop} (hF : Fn1 F) (hG : ∀ a, Fn1 (G a)) : Fn1 fun K => F fun a => G a K := fun K h => by
  obtain ⟨a, h1, h2⟩ := hF _ h
  obtain ⟨v, h3, h4⟩ := hG a K h1
  exact ⟨v, h3, fun K' hk => h2 _ (h4 K' hk)⟩
theorem Fn1.ret {α : Type} (v : α) : Fn1 fun K => K v := fun _ h => ⟨v, h, fun _ h => h⟩
theorem Fn1.no {α : Type} : Fn1 (α := α) fun _ => False := fun _ h => h.elim
theorem Fn1.ob {α : Type} (o : Option α) : Fn1 (Am.ob o) := by cases o; exact Fn1.no; exact Fn1.ret _
theorem Fn1.opK (env : Env) (x : Opd) : Fn1 (Am.opK env x) := Fn1.ob _
theorem Fn1.pInt (k : IntKind) (v : AV) : Fn1 (Am.pInt k v) := fun K h => by
  rw [pInt_iff] at h; obtain ⟨n, rfl, h⟩ := h; exact ⟨n, h, fun _ h => pInt_iff.2 ⟨n, rfl, h⟩⟩
theorem Fn1.pAny (v : AV) : Fn1 (Am.pAny v) := fun K h => by
  rw [pAny_iff] at h; obtain ⟨k, n, rfl, h⟩ := h; exact ⟨n, h, fun _ h => pAny_iff.2 ⟨k, n, rfl, h⟩⟩
theorem Fn1.pBool (v : AV) : Fn1 (Am.pBool v) := fun K h => by
  rw [pBool_iff] at h; obtain ⟨n, rfl, h⟩ := h; exact ⟨n, h, fun _ h => pBool_iff.2 ⟨n, rfl, h⟩⟩
theorem Fn1.pStr (v : AV) : Fn1 (Am.pStr v) := fun K h => by
  rw [pStr_iff] at h; obtain ⟨n, rfl, h⟩ := h; exact ⟨n, h, fun _ h => pStr_iff.2 ⟨n, rfl, h⟩⟩
theorem Fn1.pLive (v : AV) : Fn1 (Am.pLive v) := fun K h => by
  rw [pLive_iff] at h; exact ⟨v, h.2, fun _ h' => pLive_iff.2 ⟨h.1, h'⟩⟩
theorem Fn1.bs (b : Bool) (x y : AV) : Fn1 fun K => Am.bs b (K x) (K y) := by cases b; exact Fn1.ret y; exact Fn1.ret x
theorem FnH.bs {H : Heap} (b : Bool) (x y : AV) : FnH H fun K => Am.bs b (K x H) (K y H) := by cases b; exact FnH.ret y; exact FnH.ret x
theorem Fn1.tyK (t : Ty) (v : AV) : Fn1 (Am.tyK t v) := by
  cases t
  · exact (Fn1.pInt _ _).bind1 fun _ => Fn1.ret _
  · exact (Fn1.pBool _).bind1 fun _ => Fn1.bs _ _ _
  · exact (Fn1.pStr _).bind1 fun _ => Fn1.ret _
  · exact Fn1.pLive _
theorem Fn1.extK (t : Option Ty) (v : AV) : Fn1 (Am.extK t v) := by
  cases t
  · exact Fn1.ret _
  · exact Fn1.tyK _ _
theorem Fn1.opsK (env : Env) : ∀ l : List Opd, Fn1 (Am.opsK env l)
  | [] => Fn1.ret _
  | x :: r => (Fn1.opK env x).bind1 fun v => (Fn1.opsK env r).bind1 fun vs => Fn1.ret _
theorem Fn1.partsK (env : Env) : ∀ l : List (Nat × Nat × Opd), Fn1 (Am.partsK env l)
  | [] => Fn1.ret _
  | (i, n, x) :: r => (Fn1.opK env x).bind1 fun v => (Fn1.partsK env r).bind1 fun vs => Fn1.ret _
theorem Fn1.intsK (env : Env) (k : IntKind) : ∀ l : List Opd, Fn1 (Am.intsK env k l)
  | [] => Fn1.ret _
  | x :: r => (Fn1.opK env x).bind1 fun v => (Fn1.pInt k v).bind1 fun n => (Fn1.intsK env k r).bind1 fun vs => Fn1.ret _
theorem Fn1.strsK (env : Env) : ∀ l : List Opd, Fn1 (Am.strsK env l)
  | [] => Fn1.ret _
  | x :: r => (Fn1.opK env x).bind1 fun v => (Fn1.pStr v).bind1 fun n => (Fn1.strsK env r).bind1 fun vs => Fn1.ret _
theorem Fn1.optK (env : Env) (d : Int) (x : Option Opd) : Fn1 (Am.optK env d x) := by
  cases x
  · exact Fn1.ret _
  · exact (Fn1.opK _ _).bind1 fun v => Fn1.pAny v
theorem Fn1.ite {α : Type} (c : Prop) [Decidable c] {F G : (α → Prop) → Prop} (hF : Fn1 F) (hG : Fn1 G) : Fn1 fun K => if c then F K else G K := by
  by_cases h : c <;> simp only [h, if_true, if_false] <;> assumption
theorem FnH.ite {H : Heap} (c : Prop) [Decidable c] {F G : (AV → Heap → Prop) → Prop} (hF : FnH H F) (hG : FnH H G) : FnH H fun K => if c then F K else G K := by
  by_cases h : c <;> simp only [h, if_true, if_false] <;> assumption
theorem Fn1.ibinK (op : BinOp) (k : IntKind) (a b : Int) : Fn1 (Am.ibinK op k a b) := by
  cases op <;> first
    | exact Fn1.ret _
    | exact Fn1.no
    | exact Fn1.bs _ _ _
    | exact Fn1.ite (b = 0) Fn1.no (Fn1.ret _)
theorem Fn1.shfK (op : BinOp) (k : IntKind) (a b : Int) : Fn1 (Am.shfK op k a b) := by
  refine Fn1.ite (b < 0) Fn1.no ?_
  cases op <;> first
    | exact Fn1.ret _
    | exact Fn1.no
theorem Fn1.sbinK (op : BinOp) (a b : List UInt8) : Fn1 (Am.sbinK op a b) := by
  cases op <;> first
    | exact Fn1.ret _
    | exact Fn1.no
    | exact Fn1.bs _ _ _
    | exact Fn1.ite (a.length + b.length ≤ maxInt) (Fn1.ret _) Fn1.no

set_option maxHeartbeats 4000000 in
theorem aop_obs {env : Env} (o : AOp) (ho : o.looksOnly = true) : FnH H fun K => aop B env H K o := by
  cases o <;> simp only [AOp.looksOnly, Bool.false_eq_true] at ho
  all_goals simp only [aop]
  all_goals
    repeat' first
      | exact FnH.ret _
      | exact FnH.no
      | exact FnH.bs _ _ _
      | refine (Fn1.opK _ _).bind fun _ => ?_
      | refine (Fn1.ob _).bind fun _ => ?_
      | refine (Fn1.pInt _ _).bind fun _ => ?_
      | refine (Fn1.pAny _).bind fun _ => ?_
      | refine (Fn1.pBool _).bind fun _ => ?_
      | refine (Fn1.pStr _).bind fun _ => ?_
      | refine (Fn1.pLive _).bind fun _ => ?_
      | refine (Fn1.tyK _ _).bind fun _ => ?_
      | refine (Fn1.opsK _ _).bind fun _ => ?_
      | refine (Fn1.partsK _ _).bind fun _ => ?_
      | refine (Fn1.optK _ _ _).bind fun _ => ?_
      | refine (Fn1.intsK _ _ _).bind fun _ => ?_
      | refine (Fn1.strsK _ _).bind fun _ => ?_
      | refine (Fn1.ibinK _ _ _ _).bind fun _ => ?_
      | refine (Fn1.shfK _ _ _ _).bind fun _ => ?_
      | refine (Fn1.sbinK _ _ _).bind fun _ => ?_
      | refine (Fn1.extK _ _).bind fun _ => ?_
      | refine FnH.ite _ ?_ ?_
      | split

theorem stepK_obs {s : AStep} (hs : s.ins.looksOnly = true) {env : Env} {K : Env → Heap → Prop} (h : stepK B call s env H K) :
    ∃ v, K (setD env s.dst v) H ∧ ∀ K' : Env → Heap → Prop, K' (setD env s.dst v) H → stepK B call s env H K' := by
  obtain ⟨dst, guard, ins⟩ := s
  cases ins with
  | op o =>
    have ho : o.looksOnly = true := hs
    unfold stepK at h
    have key : ∀ {K}, insK B call env H (fun v H' => resK env dst v H' K) (.op o) → ∃ v, K (setD env dst v) H ∧ ∀ K' : Env → Heap → Prop, K' (setD env dst v) H → insK B call env H (fun v H' => resK env dst v H' K') (.op o) := fun {K} h => by
      obtain ⟨v, h1, h2⟩ := aop_obs (B := B) (H := H) (env := env) o ho (fun v H' => resK env dst v H' K) h
      rw [resK_setD] at h1
      exact ⟨v, h1, fun K' hk => h2 (fun v H' => resK env dst v H' K') (by rw [resK_setD]; exact hk)⟩
    rcases guard with _ | ⟨_ | j, want⟩
    · obtain ⟨v, h1, h2⟩ := key h
      exact ⟨v, h1, fun K' hk => h2 K' hk⟩
    · exact h.elim
    · simp only at h
      obtain ⟨u, hu, hp⟩ := ob_iff.1 h
      rcases pGuard_iff.1 hp with ⟨b, rfl, hq⟩ | ⟨rfl, hq⟩
      · by_cases hb : b = want
        · rw [if_pos hb] at hq
          obtain ⟨v, h1, h2⟩ := key hq
          refine ⟨v, h1, fun K' hk => ?_⟩
          simp only [stepK, hu, ob_some, pGuard_bool, if_pos hb]
          exact h2 K' hk
        · rw [if_neg hb, resK_setD] at hq
          refine ⟨.tuple [], hq, fun K' hk => ?_⟩
          simp only [stepK, hu, ob_some, pGuard_bool, if_neg hb]
          rw [resK_setD]; exact hk
      · rw [resK_setD] at hq
        refine ⟨.tuple [], hq, fun K' hk => ?_⟩
        simp only [stepK, hu, ob_some, pGuard_skip]
        rw [resK_setD]; exact hk
  | call c as ty => cases hs
  | next x => cases hs
  | entry x => cases hs
  | bad n => cases hs

end
end Go.Am
