/- Arguments of the laws: rows of bytes, of numbers, of bools; how long they are. -/
import Derived.Test.YtonfcbadaebjnaaAmZ
import Derived.Test.YtonfcbadaebjnaaAmU
import Derived.Test.YtonfcbadaebjnaaProg
import Derived.Test.YtonfcbadaebjnaaRows
import Derived.SizedLaws
namespace Go.Am
open Go Go.RowKit Go.Proofs Go.Proofs.Ytonfcbadaebjnaa

section
set_option maxRecDepth 100000
theorem ck_byte : ckinds Try.prog 8 5 = some [.fl (.int .u8)] := by kernel_rfl
theorem ck_ops : ckinds Try.prog 8 44 = some [.sl 47] := by kernel_rfl
theorem ck_op : ckinds Try.prog 8 47 = some [.fl (.int .i64), .fl (.int .i64), .fl (.int .i64), .fl .str, .fl .str, .sl 5] := by kernel_rfl
theorem cw_op : Try.prog.cellsOf 47 = 6 := by kernel_rfl
theorem cw_byte : Try.prog.cellsOf 5 = 1 := by kernel_rfl
theorem by_byte : 0 < Try.prog.bytesOf 5 := of_decide_eq_true (by kernel_rfl)
end

theorem byte_of {u : AV} (h : avIs (.int .u8) u) : ∃ c : UInt8, u = .int .u8 (c.toNat : Int) := by
  obtain ⟨m, rfl, hw⟩ := h
  have : IntKind.u8.min ≤ m ∧ m ≤ IntKind.u8.max := by simpa [Lit.wf] using hw
  have e1 : IntKind.u8.max = 255 := by decide
  have e2 : IntKind.u8.min = 0 := by decide
  refine ⟨UInt8.ofNat m.toNat, ?_⟩
  rw [UInt8.toNat_ofNat_of_lt' (by show _ < 256; omega)]
  congr 1; omega

section
set_option maxRecDepth 100000
variable {X : Type} {enc : TypeId × Value → X} {W : World} {base b0 : Nat}

theorem has_zero {t : TypeId} {a : Addr} {len : Nat} (h : Cell.okWide Try.prog W .any base t (.slice (some a) len 0)) : ∃ (b : Nat) (c : Array Value) (e : TypeId) (f : Nat × Nat), W.heap[b]? = some (Obj.cells c e f) := by
  have key : Cell.ok Try.prog W .any base t (.slice (some a) len 0) := by
    unfold Cell.okWide at h
    split at h <;> first | exact h | (rename_i e _; cases e; done) | simp_all
  unfold Cell.ok at key
  have hs : ∀ {e : TypeId}, (len ≤ 0 ∧ ((0 : Nat) : Int) ≤ IntKind.i64.max ∧ W.has Try.prog .any base a e 0) → ∃ (b : Nat) (c : Array Value) (e : TypeId) (f : Nat × Nat), W.heap[b]? = some (Obj.cells c e f) := fun {e} h => by
    obtain ⟨_, _, _, _, r, c, h1, _⟩ := h
    unfold World.shape? at h1
    split at h1
    · rename_i c el fr hc; exact ⟨_, c, el, fr, hc⟩
    · cases h1
  split at key
  all_goals first | exact hs key | exact key.elim | (rename_i e; cases e; done) | (rename_i e _; cases e; done) | (rename_i e _ _; cases e; done) | skip
  all_goals
    rename_i hv
    cases hv
    exact hs key

abbrev HB (W : World) (b0 : Nat) : Prop := (∃ (b : Nat) (c : Array Value) (e : TypeId) (f : Nat × Nat), W.heap[b]? = some (Obj.cells c e f)) → HasB W b0
theorem has_b0 (W : World) : ∃ b0, HB W b0 := by
  by_cases h : ∃ (b : Nat) (c : Array Value) (e : TypeId) (f : Nat × Nat), W.heap[b]? = some (Obj.cells c e f)
  · obtain ⟨b, c, e, f, h⟩ := h
    exact ⟨b, fun _ => ⟨c, e, f, h⟩⟩
  · exact ⟨0, fun h' => absurd h' h⟩

/-- A slice among the arguments. -/
theorem arg_sliceZ {t e : TypeId} {M : Nat} {Z : TypeId → DataW X → Prop} (hO : ZOk Try.prog M Z) {v : Value} {d : DataW X} {p : List MemPlace} (hu : Try.prog.underlying t = some (.slice e)) (hk : ckinds Try.prog 8 t = some [.sl e]) (hb0 : HB W b0)
    (hval : Value.okWide Try.prog W .any base t v) (hd : DataW.Trod enc Try.prog W 0 (fun _ => true) true t v d p) (hz : Z t d) : ∃ av, VR 0 plc0 av v ∧ GoodZ Try.prog b0 W M 5 (.sl e) av := by
  obtain ⟨a0, len0, cap0, rfl⟩ := WideShapes.okWide_slice hu hval
  simp only [Value.okWide, hu] at hval
  obtain ⟨fuel, hf⟩ := hd
  have hf' : DataW.trod enc Try.prog W 0 (fun _ => true) true fuel t [.slice a0 len0 cap0] = some (d, p) := hf
  have hzb : ZeroB W b0 [.slice a0 len0 cap0] := fun a len hm => by
    have e : Value.slice (some a) len 0 = .slice a0 len0 cap0 := by simpa using hm
    rw [← e] at hval
    exact hb0 (has_zero hval)
  obtain ⟨_, h2⟩ := trodZ hO hb0 5 8 t [.sl e] fuel _ _ hk hzb hf' hz
  obtain ⟨y, hy, u, hu', hg⟩ := h2 0 _ rfl
  have : y = .slice a0 len0 cap0 := by simpa using hy.symm
  subst this
  exact ⟨u, (bavW_ok (fun e' he => ckinds_small 8 t _ hk _ (by rw [he]; exact List.mem_singleton.2 rfl) _ rfl) hu').2, hg⟩

theorem rows1 {G : AV → Prop} {rows : List (List AV)} (h : ∀ r, r ∈ rows → r.length = 1 ∧ ∃ w, r[0]? = some w ∧ G w) : ∃ us : List AV, rows = us.map (fun u => [u]) ∧ ∀ u, u ∈ us → G u := by
  induction rows with
  | nil => exact ⟨[], rfl, fun u hu => by cases hu⟩
  | cons r rs ih =>
    obtain ⟨us, h1, h2⟩ := ih fun x hx => h x (List.mem_cons_of_mem _ hx)
    obtain ⟨hl, w, hw, hg⟩ := h r (List.mem_cons_self ..)
    match r, hl with
    | [a], _ =>
      simp at hw; subst hw
      refine ⟨a :: us, by rw [h1]; rfl, fun u hu => ?_⟩
      rcases List.mem_cons.1 hu with rfl | hu
      · exact hg
      · exact h2 u hu
theorem good_rows {M n : Nat} {e : TypeId} {k : CK} {u : AV} (hk : ckinds Try.prog 8 e = some [k]) (hc : Try.prog.cellsOf e = 1) (h : GoodZ Try.prog b0 W M (n + 1) (.sl e) u) :
    ∃ us : List AV, Sl (baseW Try.prog b0 W) [] 1 u (us.map fun u => [u]) ∧ (0 < Try.prog.bytesOf e → us.length ≤ M) ∧ ∀ v, v ∈ us → GoodZ Try.prog b0 W M n k v := by
  obtain ⟨_, hlen, rows, hs, hr⟩ := h [k] hk hc Nat.one_pos
  obtain ⟨us, h1, h2⟩ := rows1 (G := GoodZ Try.prog b0 W M n k) fun r hr' => by
    obtain ⟨g1, g2⟩ := hr r hr'
    obtain ⟨w, hw, hg⟩ := g2 0 k rfl
    exact ⟨g1, w, hw, hg⟩
  have hs' : Sl (baseW Try.prog b0 W) [] 1 u rows := hs
  rw [h1] at hs'
  exact ⟨us, hs', fun hb => hlen hb _ (by have := hs'.len; rwa [List.length_map] at this), h2⟩
theorem good_bytes {M n : Nat} {u : AV} (h : GoodZ Try.prog b0 W M (n + 1) (.sl 5) u) : ∃ s : List UInt8, Bs (baseW Try.prog b0 W) [] u s ∧ s.length ≤ M := by
  obtain ⟨us, h1, h2, h3⟩ := good_rows ck_byte cw_byte h
  have key : ∀ us : List AV, (∀ v, v ∈ us → GoodZ Try.prog b0 W M n (.fl (.int .u8)) v) → ∃ s : List UInt8, us.map (fun u => [u]) = s.map brw := fun us => by
    induction us with
    | nil => intro _; exact ⟨[], rfl⟩
    | cons a r ih =>
      intro h
      obtain ⟨s, hs⟩ := ih fun x hx => h x (List.mem_cons_of_mem _ hx)
      obtain ⟨c, rfl⟩ := byte_of (h a (List.mem_cons_self ..)).av
      exact ⟨c :: s, by rw [List.map_cons, hs]; rfl⟩
  obtain ⟨s, hs⟩ := key us h3
  have hl := congrArg List.length hs
  rw [List.length_map, List.length_map] at hl
  rw [hs] at h1
  exact ⟨s, h1, by rw [← hl]; exact h2 by_byte⟩
theorem int_of {u : AV} (h : avIs (.int .i64) u) : ∃ c : Int, u = .int .i64 c ∧ (-9223372036854775808 ≤ c ∧ c ≤ 9223372036854775807) := by
  obtain ⟨c, rfl, hw⟩ := h
  have : IntKind.i64.min ≤ c ∧ c ≤ IntKind.i64.max := by simpa [Lit.wf] using hw
  have e1 : IntKind.i64.max = 9223372036854775807 := by decide
  have e2 : IntKind.i64.min = -9223372036854775808 := by decide
  exact ⟨c, rfl, by omega⟩
/-- Steps, raw. -/
abbrev OpT := Int × Int × Int × List UInt8 × List UInt8 × AV × List UInt8
def opRow (o : OpT) : List AV := [.int .i64 o.1, .int .i64 o.2.1, .int .i64 o.2.2.1, .str o.2.2.2.1, .str o.2.2.2.2.1, o.2.2.2.2.2.1]
def OpGood (b0 : Nat) (W : World) (M : Nat) (o : OpT) : Prop := Bs (baseW Try.prog b0 W) [] o.2.2.2.2.2.1 o.2.2.2.2.2.2 ∧ o.2.2.2.2.2.2.length ≤ M ∧ (-9223372036854775808 ≤ o.1 ∧ o.1 ≤ 9223372036854775807) ∧ (-9223372036854775808 ≤ o.2.1 ∧ o.2.1 ≤ 9223372036854775807) ∧ (-9223372036854775808 ≤ o.2.2.1 ∧ o.2.2.1 ≤ 9223372036854775807)
theorem good_ops {M n : Nat} {u : AV} (h : GoodZ Try.prog b0 W M (n + 2) (.sl 47) u) : ∃ ops : List OpT, Sl (baseW Try.prog b0 W) [] 6 u (ops.map opRow) ∧ ∀ o, o ∈ ops → OpGood b0 W M o := by
  obtain ⟨_, _, rows, hs, hr⟩ := h _ ck_op cw_op (by decide)
  have key : ∀ rows : List (List AV), (∀ r, r ∈ rows → r.length = 6 ∧ ∀ (j : Nat) k, [CK.fl (.int .i64), .fl (.int .i64), .fl (.int .i64), .fl .str, .fl .str, .sl 5][j]? = some k → ∃ w, r[j]? = some w ∧ GoodZ Try.prog b0 W M (n + 1) k w) → ∃ ops : List OpT, rows = ops.map opRow ∧ ∀ o, o ∈ ops → OpGood b0 W M o := fun rows => by
    induction rows with
    | nil => intro _; exact ⟨[], rfl, fun o ho => by cases ho⟩
    | cons r rs ih =>
      intro h
      obtain ⟨ops, h1, h2⟩ := ih fun x hx => h x (List.mem_cons_of_mem _ hx)
      obtain ⟨hl, hc⟩ := h r (List.mem_cons_self ..)
      match r, hl with
      | [a0, a1, a2, a3, a4, a5], _ =>
        obtain ⟨w0, e0, g0⟩ := hc 0 _ rfl
        obtain ⟨w1, e1, g1⟩ := hc 1 _ rfl
        obtain ⟨w2, e2, g2⟩ := hc 2 _ rfl
        obtain ⟨w3, e3, g3⟩ := hc 3 _ rfl
        obtain ⟨w4, e4, g4⟩ := hc 4 _ rfl
        obtain ⟨w5, e5, g5⟩ := hc 5 _ rfl
        simp at e0 e1 e2 e3 e4 e5
        subst e0 e1 e2 e3 e4 e5
        obtain ⟨c0, rfl, r0⟩ := int_of g0.av
        obtain ⟨c1, rfl, r1⟩ := int_of g1.av
        obtain ⟨c2, rfl, r2⟩ := int_of g2.av
        obtain ⟨s3, rfl, _⟩ := g3.av
        obtain ⟨s4, rfl, _⟩ := g4.av
        obtain ⟨s5, hb, hl5⟩ := good_bytes g5
        refine ⟨(c0, c1, c2, s3, s4, a5, s5) :: ops, by rw [h1]; rfl, fun o ho => ?_⟩
        rcases List.mem_cons.1 ho with rfl | ho
        · exact ⟨hb, hl5, r0, r1, r2⟩
        · exact h2 o ho
  obtain ⟨ops, h1, h2⟩ := key rows hr
  have hs' : Sl (baseW Try.prog b0 W) [] 6 u rows := hs
  rw [h1] at hs'
  exact ⟨ops, hs', h2⟩
end

/-! ### Where what is read is small -/
section
variable {X : Type}
theorem bulk_part {d : DataW X} {l : List (DataW X)} (h : d ∈ l) : Rows.uptoBulk d ≤ Rows.uptoBulkAll l := by
  induction l with
  | nil => cases h
  | cons x r ih =>
    simp only [Rows.uptoBulkAll]
    rcases List.mem_cons.1 h with rfl | h
    · omega
    · have := ih h; omega
theorem bulk_one (d : DataW X) : 1 ≤ Rows.uptoBulk d := by
  cases d with
  | lit l => cases l <;> simp [Rows.uptoBulk]
  | _ => simp [Rows.uptoBulk]
theorem bulk_len (l : List (DataW X)) : l.length ≤ Rows.uptoBulkAll l := by
  induction l with
  | nil => simp [Rows.uptoBulkAll]
  | cons x r ih => have := bulk_one x; simp only [Rows.uptoBulkAll, List.length_cons]; omega
def Zu (_ : TypeId) (d : DataW X) : Prop := Rows.uptoBulk d ≤ 1048576
theorem Zu.ok : ZOk (X := X) Try.prog 1048576 Zu := by
  refine ⟨fun {t e elems spare} _ h => ⟨fun _ => ?_, fun d hd => ?_⟩, fun {t fs parts} _ h i f d _ hd => ?_, fun {t e m parts} _ h d hd => ?_⟩
  · have h1 := bulk_len elems
    simp only [Zu, Rows.uptoBulk] at h
    omega
  · have h1 := bulk_part hd
    simp only [Zu, Rows.uptoBulk] at h ⊢
    omega
  · have h1 := bulk_part (List.mem_of_getElem? hd)
    simp only [Zu, Rows.uptoBulk] at h ⊢
    omega
  · have h1 := bulk_part hd
    simp only [Zu, Rows.uptoBulk] at h ⊢
    omega
/-! ### Where each row takes no more than there is -/
theorem weightsAll_mem {P : Program} {e : TypeId} : ∀ {l : List (DataW X)} {d : DataW X}, d ∈ l → ∀ n, n ∈ d.weights P e → n ∈ DataW.weightsAll P e l
  | [], _, h, _, _ => by cases h
  | x :: r, d, h, n, hn => by
    simp only [DataW.weightsAll, List.mem_append]
    rcases List.mem_cons.1 h with rfl | h
    · exact .inl hn
    · exact .inr (weightsAll_mem h n hn)
def Zw (t : TypeId) (d : DataW X) : Prop := ∀ n, n ∈ d.weights Try.prog t → n ≤ 140737488351232
theorem Zw.ok : ZOk (X := X) Try.prog 140737488351232 Zw := by
  refine ⟨fun {t e elems spare} hu h => ⟨fun hb => ?_, fun d hd n hn => ?_⟩, fun {t fs parts} hu h i f d hf hd n hn => ?_, fun {t e m parts} hu h d hd n hn => ?_⟩
  · have h1 := h ((elems.length + spare.length) * Try.prog.bytesOf e) (by simp [DataW.weights, hu])
    have h2 : (elems.length + spare.length) * 1 ≤ (elems.length + spare.length) * Try.prog.bytesOf e := Nat.mul_le_mul_left _ hb
    omega
  · refine h n ?_
    simp only [DataW.weights, hu, List.mem_cons, List.mem_append]
    exact .inr (.inl (weightsAll_mem hd n hn))
  · refine h n ?_
    simp only [DataW.weights, hu]
    exact DataW.weights_mem_each (by rw [List.getElem?_map, hf]; rfl) hd n hn
  · refine h n ?_
    simp only [DataW.weights, hu]
    exact weightsAll_mem hd n hn
theorem wide_each {ts : List TypeId} {ds : List (DataW X)} (hz : (DataW.weightsEach Try.prog ts ds).all (· ≤ reachBytes) = true) {j : Nat} {t : TypeId} {d : DataW X} (ht : ts[j]? = some t) (hd : ds[j]? = some d) : Zw t d := fun n hn => by
  have := List.all_eq_true.1 hz n (DataW.weights_mem_each ht hd n hn)
  have e : reachBytes = 140737488351232 := by decide
  rw [e] at this
  simpa using this
end
end Go.Am
