/- The functions of the packages pick and marlstoneref15: what they answer. -/
import Derived.Test.YtdgjmffnjkimoaaAg
import Derived.Test.YtdgjmffnjkimoaaAmS
import Derived.KernelRfl
import Derived.Test.YtdgjmffnjkimoaaAmE
import Derived.Test.YtdgjmffnjkimoaaAg3
namespace Go.Am
open Go

/-- A table. -/
structure Tab where
  level : Int
  count : Int
  dig : List AV
  first : List UInt8
  last : List UInt8
def Tab.row (t : Tab) : List AV := .int .i64 t.level :: .int .i64 t.count :: (t.dig ++ [.str t.first, .str t.last])
structure Tab.Ok (t : Tab) : Prop where
  dig : t.dig.length = 32
  low : LowL 0 t.dig
  one : Ones t.dig
theorem Tab.Ok.len {t : Tab} (h : t.Ok) : t.row.length = 36 := by simp [Tab.row, h.dig]
theorem Tab.Ok.r34 {t : Tab} (h : t.Ok) : t.row[34]? = some (.str t.first) := by
  show (t.dig ++ [.str t.first, .str t.last])[32]? = _
  rw [List.getElem?_append_right (by simp [h.dig]), h.dig]; rfl
theorem Tab.Ok.r35 {t : Tab} (h : t.Ok) : t.row[35]? = some (.str t.last) := by
  show (t.dig ++ [.str t.first, .str t.last])[33]? = _
  rw [List.getElem?_append_right (by simp [h.dig]), h.dig]; rfl
theorem Tab.Ok.ones {t : Tab} (h : t.Ok) : Ones t.row := by
  intro v hv
  simp only [Tab.row, List.mem_cons, List.mem_append, List.not_mem_nil, or_false] at hv
  rcases hv with rfl | rfl | hv | rfl | rfl
  · rfl
  · rfl
  · exact h.one v hv
  · rfl
  · rfl

def below (l : Int) : Int := if l < 0 ∨ l ≥ 4 then 0 else 3 - l
def weight (t : Tab) : Int := IntKind.i64.wrap (t.count * below t.level)

theorem f22_ok {B : Base} {t : Tab} (ht : t.Ok) {H : Heap} {Q : AV → Heap → Prop} (h : Q (.int .i64 (below t.level)) H) : Cl B 22 [.agg t.row] H Q := by
  refine f22_in fun n cl hn hcl hH hA => ?_
  have hH' : LowH n H := hH
  refine op_box rfl ht.len ?_
  have he : El B (H ++ [.var t.row]) (.ptr (some (.new H.length, 0))) t.row := El.new (by rw [get_app0]; rfl)
  refine op_fld he ?_
  rw [he.fld (v := .int .i64 t.level) rfl, ob_some, pInt_int]
  have fin : ∀ x, x = below t.level → tidyK n Q (.int .i64 x) (H ++ [.var t.row]) := fun x hx => by subst hx; exact tidy_drop hn hH' low_int h
  refine bs_iff.2 ⟨fun h1 => fin _ ?_, fun h1 => ?_⟩
  · simp at h1; simp [below, h1]
  refine op_fld he ?_
  rw [he.fld (v := .int .i64 t.level) rfl, ob_some, pInt_int]
  refine bs_iff.2 ⟨fun h2 => fin _ ?_, fun h2 => ?_⟩
  · simp at h2; simp [below, h2]
  refine op_fld he ?_
  rw [he.fld (v := .int .i64 t.level) rfl, ob_some, pInt_int]
  simp at h1 h2
  refine fin _ ?_
  rw [w64 (by omega)]
  simp only [below]; rw [if_neg (by omega)]

theorem f21_ok {B : Base} {t : Tab} (ht : t.Ok) {H : Heap} {Q : AV → Heap → Prop} (h : Q (.int .i64 (weight t)) H) : Cl B 21 [.agg t.row] H Q := by
  refine f21_in fun n cl hn hcl hH hA => ?_
  subst hcl
  refine op_box rfl ht.len ?_
  have he : El B (H ++ [.var t.row]) (.ptr (some (.new H.length, 0))) t.row := El.new (by rw [get_app0]; rfl)
  refine op_fld he ?_
  rw [he.fld (v := .int .i64 t.count) rfl, ob_some, pInt_int, he.peekN ht.len, ob_some]
  refine f22_ok ht ?_
  rw [pInt_int, he.fld (v := .int .i64 t.count) rfl, ob_some, pInt_int]
  refine ⟨rfl, op_fld he rfl, ?_⟩
  exact tidy_drop hn hH low_int h

/-- Score, from the front. -/
def scoreF (a : Int) : List Tab → Int
  | [] => a
  | t :: r => scoreF (IntKind.i64.wrap (a + weight t)) r

theorem f12_loop {B : Base} {n : Nat} {H : Heap} {Q : AV → Heap → Prop} {v : AV} {all : List Tab} (hn : n = H.length) (hH : LowH n H) (hv : Low n v) (hs : Sl B H 36 v (all.map Tab.row)) (hok : ∀ t ∈ all, t.Ok) (hsz : all.length < 4611686018427387904)
    (h : Q (.int .i64 (scoreF 0 all)) H) : ∀ (rest : List Tab) (i : Nat) (a : Int), all.drop i = rest → scoreF a rest = scoreF 0 all → L12_0 B (Cl B) n (.func (.func 21) [] []) a v (all.length : Int) (i : Int) H Q
  | [], i, a, hd, ha => by
    refine L12_0_in (ACall.cle B table) (bs_iff.2 ⟨fun h1 => ?_, fun h1 => ?_⟩)
    · simp at h1
      have : (all.drop i).length = 0 := by rw [hd]; rfl
      simp at this; omega
    · refine J12_1_in ?_
      simp only [scoreF] at ha
      rw [ha]; exact tidy_none h
  | t :: r, i, a, hd, ha => by
    have hlt : i < all.length := by
      have : (all.drop i).length = r.length + 1 := by rw [hd]; rfl
      simp at this; omega
    have hget : all[i]? = some t := by
      have : (all.drop i)[0]? = some t := by rw [hd]; rfl
      simpa using this
    have ht : t.Ok := hok t (List.mem_of_getElem? hget)
    have hrow : (all.map Tab.row)[i]? = some t.row := by simp [hget]
    have hel := hs.el hrow
    refine L12_0_in (ACall.cle B table) (bs_iff.2 ⟨fun _ => ?_, fun h1 => by simp at h1; omega⟩)
    refine op_idx hs (by simpa using hlt) ?_
    rw [hel.peekN ht.len, ob_some]
    refine op_alloc (op_st_last rfl ht.len ?_)
    have he : El B (H ++ [.var t.row]) (.ptr (some (.new H.length, 0))) t.row := El.new (by rw [get_app0]; rfl)
    rw [he.peekN ht.len, ob_some]
    show Cl B 21 [.agg t.row] _ _
    refine f21_ok ht ?_
    rw [pInt_int]
    refine L12_0_tidy (y3 := .func (.func 21) [] []) (y7 := v) (Cln.drop hn hH) ⟨rfl, rfl, rfl⟩ (by subst hn; exact hv) ?_
    rw [w64 (n := (i : Int) + 1) (by omega)]
    refine f12_loop hn hH hv hs hok hsz h r (i + 1) _ ?_ ?_
    · rw [← List.drop_drop, hd]; rfl
    · simpa only [scoreF] using ha

theorem f12_ok {B : Base} {H : Heap} {Q : AV → Heap → Prop} {v : AV} {all : List Tab} (hs : Sl B H 36 v (all.map Tab.row)) (hok : ∀ t ∈ all, t.Ok) (hsz : all.length < 4611686018427387904)
    (h : Q (.int .i64 (scoreF 0 all)) H) : Cl B 12 [v] H Q := by
  refine f12_in fun n cl hn hcl hH hA => ?_
  subst hcl
  rw [hs.len, ob_some, List.length_map]
  exact f12_loop hn hH hA.1 hs hok hsz h all 0 0 rfl rfl

end Go.Am

/- The functions Cap, Of and the document's Score: what they answer. -/
namespace Go.Am
open Go

theorem drop_cons {α : Type} {all r : List α} {i : Nat} {t : α} (h : all.drop i = t :: r) : all[i]? = some t ∧ i < all.length ∧ all.drop (i + 1) = r := by
  have h1 : all[i]? = some t := by
    have : (all.drop i)[0]? = some t := by rw [h]; rfl
    simpa using this
  refine ⟨h1, ?_, ?_⟩
  · rcases Nat.lt_or_ge i all.length with h' | h'
    · exact h'
    · rw [List.getElem?_eq_none h'] at h1; cases h1
  · rw [← List.drop_drop, h]; rfl
theorem drop_nil {α : Type} {all : List α} {i : Nat} (h : all.drop i = []) : all.length ≤ i := by
  have : (all.drop i).length = 0 := by rw [h]; rfl
  simp at this; omega

section
variable {B : Base} {H : Heap} {v : AV} {all : List Tab} {i : Nat} {t : Tab}
theorem tab_row (hs : Sl B H 36 v (all.map Tab.row)) (hget : all[i]? = some t) : El B H (ept 36 v i) t.row := hs.el (by simp [hget])
theorem tab_lt (hget : all[i]? = some t) : i < (all.map Tab.row).length := by
  rw [List.length_map]
  rcases Nat.lt_or_ge i all.length with h' | h'
  · exact h'
  · rw [List.getElem?_eq_none h'] at hget; cases hget
theorem tab_level {K : AV → AV → Int → Prop} (hs : Sl B H 36 v (all.map Tab.row)) (hget : all[i]? = some t) (h : K (ept 36 v i) (fpt (ept 36 v i) 0) t.level) :
    aop B E0 H (fun v2 _ => aop B E0 H (fun v3 _ => ob (peek B H v3) fun c => pInt .i64 c fun n => K v2 v3 n) (.fieldPtr 0 (.const v2))) (.indexPtr 36 (.const v) (.const (.int .i64 (i : Int)))) := by
  refine op_idx hs (tab_lt hget) (op_fld (tab_row hs hget) ?_)
  rw [(tab_row hs hget).fld (v := .int .i64 t.level) rfl, ob_some, pInt_int]; exact h
theorem tab_count {K : AV → AV → Int → Prop} (hs : Sl B H 36 v (all.map Tab.row)) (hget : all[i]? = some t) (h : K (ept 36 v i) (fpt (ept 36 v i) 1) t.count) :
    aop B E0 H (fun v2 _ => aop B E0 H (fun v3 _ => ob (peek B H v3) fun c => pInt .i64 c fun n => K v2 v3 n) (.fieldPtr 1 (.const v2))) (.indexPtr 36 (.const v) (.const (.int .i64 (i : Int)))) := by
  refine op_idx hs (tab_lt hget) (op_fld (tab_row hs hget) ?_)
  rw [(tab_row hs hget).fld (v := .int .i64 t.count) rfl, ob_some, pInt_int]; exact h
theorem tab_first {K : AV → AV → List UInt8 → Prop} (ht : t.Ok) (hs : Sl B H 36 v (all.map Tab.row)) (hget : all[i]? = some t) (h : K (ept 36 v i) (fpt (ept 36 v i) 34) t.first) :
    aop B E0 H (fun v2 _ => aop B E0 H (fun v3 _ => ob (peek B H v3) fun c => pStr c fun n => K v2 v3 n) (.fieldPtr 34 (.const v2))) (.indexPtr 36 (.const v) (.const (.int .i64 (i : Int)))) := by
  refine op_idx hs (tab_lt hget) (op_fld (tab_row hs hget) ?_)
  rw [(tab_row hs hget).fld ht.r34, ob_some, pStr_str]; exact h
theorem tab_last {K : AV → AV → List UInt8 → Prop} (ht : t.Ok) (hs : Sl B H 36 v (all.map Tab.row)) (hget : all[i]? = some t) (h : K (ept 36 v i) (fpt (ept 36 v i) 35) t.last) :
    aop B E0 H (fun v2 _ => aop B E0 H (fun v3 _ => ob (peek B H v3) fun c => pStr c fun n => K v2 v3 n) (.fieldPtr 35 (.const v2))) (.indexPtr 36 (.const v) (.const (.int .i64 (i : Int)))) := by
  refine op_idx hs (tab_lt hget) (op_fld (tab_row hs hget) ?_)
  rw [(tab_row hs hget).fld ht.r35, ob_some, pStr_str]; exact h
end

/-- Cap. -/
def cap (l : Int) : Int := if l = 0 then 4 else if l = 1 then 8 else if l = 2 then 32 else -1

theorem f15_ok {B : Base} {l : Int} {H : Heap} {Q : AV → Heap → Prop} (h : Q (.int .i64 (cap l)) H) : Cl B 15 [.int .i64 l] H Q := by
  refine f15_in fun n cl hn hcl hH hA => ?_
  have fin : ∀ x, x = cap l → tidyK n Q (.int .i64 x) H := fun x hx => by subst hx; exact tidy_none h
  refine bs_iff.2 ⟨fun h1 => fin _ ?_, fun h1 => bs_iff.2 ⟨fun h2 => fin _ ?_, fun h2 => bs_iff.2 ⟨fun h3 => fin _ ?_, fun h3 => fin _ ?_⟩⟩⟩
  all_goals simp at *
  all_goals simp [cap, *]

theorem f14_ok {B : Base} {l : Int} {H : Heap} {Q : AV → Heap → Prop} (h : Q (.int .i64 (cap l)) H) : Cl B 14 [.int .i64 l] H Q := by
  refine f14_in fun n cl hn hcl hH hA => ?_
  have fin : ∀ x, x = cap l → tidyK n Q (.int .i64 x) H := fun x hx => by subst hx; exact tidy_none h
  refine bs_iff.2 ⟨fun h1 => fin _ ?_, fun h1 => bs_iff.2 ⟨fun h2 => fin _ ?_, fun h2 => bs_iff.2 ⟨fun h3 => fin _ ?_, fun h3 => ?_⟩⟩⟩
  · simp at h1; simp [cap, h1]
  · simp at h1 h2; simp only [cap]; rw [if_neg (by omega), if_neg (by omega), if_neg (by omega)]
  · simp at h1 h2 h3; simp only [cap]; rw [if_neg (by omega), if_neg (by omega), if_neg (by omega)]
  · simp at h1 h2 h3
    have : l = 1 ∨ l = 2 := by omega
    rcases this with rfl | rfl
    · exact fin _ rfl
    · exact fin _ rfl

/-- How many are of a level. -/
def ofF (level : Int) : List Tab → Nat
  | [] => 0
  | t :: r => (if t.level = level then 1 else 0) + ofF level r
theorem ofF_le (level : Int) : ∀ l : List Tab, ofF level l ≤ l.length
  | [] => Nat.le_refl _
  | t :: r => by have := ofF_le level r; simp only [ofF, List.length_cons]; split <;> omega

theorem f17_loop {B : Base} {n : Nat} {H : Heap} {Q : AV → Heap → Prop} {v : AV} {all : List Tab} {level : Int} (hs : Sl B H 36 v (all.map Tab.row)) (hsz : all.length < 4611686018427387904)
    (h : Q (.int .i64 (ofF level all)) H) : ∀ (rest : List Tab) (i a : Nat), all.drop i = rest → a + ofF level rest = ofF level all → L17_1 B (Cl B) n v level (a : Int) (i : Int) H Q
  | [], i, a, hd, ha => by
    refine L17_1_in (ACall.cle B table) ?_
    rw [hs.len, ob_some, List.length_map]
    refine bs_iff.2 ⟨fun h1 => ?_, fun h1 => ?_⟩
    · have := drop_nil hd; simp at h1; omega
    · refine J17_2_in ?_
      simp only [ofF, Nat.add_zero] at ha
      rw [ha]; exact tidy_none h
  | t :: r, i, a, hd, ha => by
    obtain ⟨hget, hlt, hd'⟩ := drop_cons hd
    have hle := ofF_le level all
    refine L17_1_in (ACall.cle B table) ?_
    rw [hs.len, ob_some, List.length_map]
    refine bs_iff.2 ⟨fun _ => ?_, fun h1 => by simp at h1; omega⟩
    refine tab_level hs hget ?_
    simp only [ofF] at ha
    refine bs_iff.2 ⟨fun h1 => ?_, fun h1 => ?_⟩
    · simp at h1
      rw [if_pos h1] at ha
      refine J17_0_in ?_
      rw [w64 (n := (i : Int) + 1) (by omega), w64 (n := (a : Int) + 1) (by omega)]
      exact f17_loop hs hsz h r (i + 1) (a + 1) hd' (by omega)
    · simp at h1
      rw [if_neg h1] at ha
      refine J17_0_in ?_
      rw [w64 (n := (i : Int) + 1) (by omega)]
      exact f17_loop hs hsz h r (i + 1) a hd' (by omega)

theorem f17_ok {B : Base} {H : Heap} {Q : AV → Heap → Prop} {v : AV} {all : List Tab} {level : Int} (hs : Sl B H 36 v (all.map Tab.row)) (hsz : all.length < 4611686018427387904)
    (h : Q (.int .i64 (ofF level all)) H) : Cl B 17 [v, .int .i64 level] H Q := by
  refine f17_in fun n cl hn hcl hH hA => ?_
  subst hcl
  exact f17_loop hs hsz h all 0 0 rfl (by omega)

/-- The document's score. -/
def scoreR (a : Int) : List Tab → Int
  | [] => a
  | t :: r => scoreR (if t.level ≥ 0 ∧ t.level ≤ 3 then IntKind.i64.wrap (a + IntKind.i64.wrap (t.count * IntKind.i64.wrap (3 - t.level))) else a) r

theorem f13_loop {B : Base} {n : Nat} {H : Heap} {Q : AV → Heap → Prop} {v : AV} {all : List Tab} (hs : Sl B H 36 v (all.map Tab.row)) (hsz : all.length < 4611686018427387904)
    (h : Q (.int .i64 (scoreR 0 all)) H) : ∀ (rest : List Tab) (i : Nat) (a : Int), all.drop i = rest → scoreR a rest = scoreR 0 all → L13_3 B (Cl B) n v a (i : Int) H Q
  | [], i, a, hd, ha => by
    refine L13_3_in (ACall.cle B table) ?_
    rw [hs.len, ob_some, List.length_map]
    refine bs_iff.2 ⟨fun h1 => ?_, fun h1 => ?_⟩
    · have := drop_nil hd; simp at h1; omega
    · refine J13_4_in ?_
      simp only [scoreR] at ha
      rw [ha]; exact tidy_none h
  | t :: r, i, a, hd, ha => by
    obtain ⟨hget, hlt, hd'⟩ := drop_cons hd
    refine L13_3_in (ACall.cle B table) ?_
    rw [hs.len, ob_some, List.length_map]
    refine bs_iff.2 ⟨fun _ => J13_2_in ?_, fun h1 => by simp at h1; omega⟩
    refine tab_level hs hget ?_
    simp only [scoreR] at ha
    have no : ¬ (t.level ≥ 0 ∧ t.level ≤ 3) → J13_0 B (Cl B) n v a (i : Int) (.bool false) H Q := fun hno => by
      rw [if_neg hno] at ha
      refine J13_0_in ?_
      rw [pBool_bool, if_neg (by simp)]
      refine J13_1_in ?_
      rw [w64 (n := (i : Int) + 1) (by omega)]
      exact f13_loop hs hsz h r (i + 1) a hd' ha
    refine bs_iff.2 ⟨fun h1 => ?_, fun h1 => ?_⟩
    · simp at h1
      refine tab_level hs hget ?_
      refine bs_iff.2 ⟨fun h2 => ?_, fun h2 => no (by simp at h2; omega)⟩
      simp at h2
      rw [if_pos ⟨h1, h2⟩] at ha
      refine J13_0_in ?_
      rw [pBool_bool, if_pos rfl]
      refine tab_count hs hget (tab_level hs hget (J13_1_in ?_))
      rw [w64 (n := (i : Int) + 1) (by omega)]
      exact f13_loop hs hsz h r (i + 1) _ hd' ha
    · exact no (by simp at h1; omega)

theorem f13_ok {B : Base} {H : Heap} {Q : AV → Heap → Prop} {v : AV} {all : List Tab} (hs : Sl B H 36 v (all.map Tab.row)) (hsz : all.length < 4611686018427387904)
    (h : Q (.int .i64 (scoreR 0 all)) H) : Cl B 13 [v] H Q := by
  refine f13_in fun n cl hn hcl hH hA => ?_
  subst hcl
  exact f13_loop hs hsz h all 0 0 rfl rfl

/-- The two scores are one. -/
theorem score_eq : ∀ (l : List Tab) (a : Int), (-9223372036854775808 ≤ a ∧ a ≤ 9223372036854775807) → scoreR a l = scoreF a l
  | [], _, _ => rfl
  | t :: r, a, ha => by
    have hr : ∀ x, -9223372036854775808 ≤ IntKind.i64.wrap x ∧ IntKind.i64.wrap x ≤ 9223372036854775807 := fun x => by
      rw [IntKind.wrap_i64]; omega
    simp only [scoreR, scoreF, weight, below]
    by_cases h : t.level ≥ 0 ∧ t.level ≤ 3
    · rw [if_pos h, if_neg (by omega), w64 (n := 3 - t.level) (by omega)]
      exact score_eq r _ (hr _)
    · rw [if_neg h, if_pos (by omega), Int.mul_zero, w64 (n := 0) (by omega), Int.add_zero, w64 ha]
      exact score_eq r _ ha

end Go.Am

/- The functions on, over and places: what they answer. -/
namespace Go.Am
open Go

theorem slK_in {H : Heap} {es len : Nat} {c : List AV} {K : AV → Heap → Prop} (h : K (.slice (.new H.length) 0 len es (some len)) (H ++ [.arr c])) : slK H es len c K := h

def spanRow (l : Int) (a b : List UInt8) : List AV := [.int .i64 l, .str a, .str b]
def onB (l : Int) (t : Tab) : Bool := t.level == l
def overB (l : Int) (a b : List UInt8) (t : Tab) : Bool := (t.level == l) && ((sLess t.first b || t.first == b) && !(sLess t.last a))

theorem tidy_drop2 {n : Nat} {H : Heap} {x y : AObj} {Q : AV → Heap → Prop} {v : AV} (hn : n = H.length) (hl : LowH n H) (hv : Low n v) (h : Q v H) : tidyK n Q v (H ++ [x] ++ [y]) := by
  rw [List.append_assoc]; exact tidy_drop hn hl hv h

theorem f19_ok {B : Base} {t : Tab} (ht : t.Ok) {l : Int} {a b : List UInt8} {H : Heap} {Q : AV → Heap → Prop} (h : Q (.bool (onB l t)) H) : Cl B 19 [.agg (spanRow l a b), .agg t.row] H Q := by
  refine f19_in fun n cl hn hcl hH hA => ?_
  refine op_box (c := spanRow l a b) rfl rfl (op_box (c := t.row) rfl ht.len ?_)
  have e1 : El B (H ++ [.var (spanRow l a b)] ++ [.var t.row]) (.ptr (some (.new H.length, 0))) (spanRow l a b) := El.pre (El.new (by rw [get_app0]; rfl))
  have e2 : El B (H ++ [.var (spanRow l a b)] ++ [.var t.row]) (.ptr (some (.new (H ++ [AObj.var (spanRow l a b)]).length, 0))) t.row := El.new (by rw [get_app0]; rfl)
  refine op_fld e2 ?_
  rw [e2.fld (v := .int .i64 t.level) rfl, ob_some, pInt_int]
  refine op_fld e1 ?_
  rw [e1.fld (v := .int .i64 l) rfl, ob_some, pInt_int]
  show bs (t.level == l) _ _
  refine bs_iff.2 ⟨fun h1 => ?_, fun h1 => ?_⟩
  · exact tidy_drop2 hn hH low_bool (by rw [onB, h1] at h; exact h)
  · exact tidy_drop2 hn hH low_bool (by rw [onB, h1] at h; exact h)

theorem f20_ok {B : Base} {t : Tab} (ht : t.Ok) {l : Int} {a b : List UInt8} {H : Heap} {Q : AV → Heap → Prop} (h : Q (.bool (overB l a b t)) H) : Cl B 20 [.agg (spanRow l a b), .agg t.row] H Q := by
  refine f20_in fun n cl hn hcl hH hA => ?_
  subst hcl
  refine op_box (c := spanRow l a b) rfl rfl (op_box (c := t.row) rfl ht.len ?_)
  have e1 : El B (H ++ [.var (spanRow l a b)] ++ [.var t.row]) (.ptr (some (.new H.length, 0))) (spanRow l a b) := El.pre (El.new (by rw [get_app0]; rfl))
  have e2 : El B (H ++ [.var (spanRow l a b)] ++ [.var t.row]) (.ptr (some (.new (H ++ [AObj.var (spanRow l a b)]).length, 0))) t.row := El.new (by rw [get_app0]; rfl)
  rw [e1.peekN (by rfl), ob_some, e2.peekN ht.len, ob_some]
  refine f19_ok ht ?_
  rw [pBool_bool]
  have fin : ∀ r, r = overB l a b t → tidyK n Q (.bool r) (H ++ [.var (spanRow l a b)] ++ [.var t.row]) := fun r hr => by subst hr; exact tidy_drop2 hn hH low_bool h
  refine bs_iff.2 ⟨fun h1 => ?_, fun h1 => fin _ ?_⟩
  · refine op_fld e2 ?_
    rw [e2.fld ht.r34, ob_some, pStr_str]
    refine op_fld e1 ?_
    rw [e1.fld (v := .str b) rfl, ob_some, pStr_str]
    refine bs_iff.2 ⟨fun h2 => ?_, fun h2 => fin _ ?_⟩
    · refine op_fld e2 ?_
      rw [e2.fld ht.r35, ob_some, pStr_str]
      refine op_fld e1 ?_
      rw [e1.fld (v := .str a) rfl, ob_some, pStr_str]
      show bs (!(sLess t.last a)) _ _
      refine bs_iff.2 ⟨fun h3 => fin _ ?_, fun h3 => fin _ ?_⟩
      · simp only [overB, h2, h3]; simpa [onB] using h1.symm
      · simp only [overB, h2, h3]; simp
    · simp only [overB, h2]; simp
  · simp only [overB, onB] at h1 ⊢; simp [h1]

/-- The places of those that are meant, from a place on. -/
def idxsFrom (p : Tab → Bool) : Nat → List Tab → List Nat
  | _, [] => []
  | i, t :: r => if p t then i :: idxsFrom p (i + 1) r else idxsFrom p (i + 1) r
def irow (i : Nat) : List AV := [.int .i64 (i : Int)]

theorem irows_flat (l : List Nat) : flatO (growO (l.map irow)) := by
  unfold growO
  split
  · trivial
  · have : ∀ l : List Nat, Ones (l.map irow).flatten ∧ LowL 0 (l.map irow).flatten := fun l => by
      induction l with
      | nil => exact ⟨fun v hv => by simp at hv, rfl⟩
      | cons i r ih =>
        refine ⟨fun v hv => ?_, ?_⟩
        · simp only [List.map_cons, List.flatten_cons, irow, List.mem_append, List.mem_singleton] at hv
          rcases hv with rfl | hv
          · rfl
          · exact ih.1 v hv
        · exact ⟨rfl, ih.2⟩
    exact this l
theorem irows_len (l : List Nat) : ∀ r, r ∈ l.map irow → r.length = 1 := fun r hr => by
  obtain ⟨i, _, rfl⟩ := List.mem_map.1 hr; rfl
theorem growV_rv {f : Nat → Nat} {n a b es : Nat} {rows : List (List AV)} (h1 : f a = b) (h2 : a < n) : RV f n (growV a es rows) (growV b es rows) := by
  unfold growV
  split
  · exact rfl
  · exact ⟨h2, by simp [Id.ren, h1]⟩

/-- What a function value tells of a table. -/
def Meant (B : Base) (f : AV) (p : Tab → Bool) : Prop := ∀ (t : Tab), t.Ok → ∀ (H : Heap) (Q : AV → Heap → Prop), Q (.bool (p t)) H → calleeK B E0 H [.agg t.row] (fun g z => Cl B g z H Q) (.val (.const f))

theorem f18_loop {B : Base} {n : Nat} {H : Heap} {Q : AV → Heap → Prop} {v f : AV} {all : List Tab} {p : Tab → Bool} (hn : n = H.length) (hH : LowH n H) (hv : Low n v) (hfl : Low n f) (hs : Sl B H 36 v (all.map Tab.row)) (hok : ∀ t ∈ all, t.Ok) (hsz : all.length < 17592186044416)
    (hf : Meant B f p) (h : Q (growV H.length 1 ((idxsFrom p 0 all).map irow)) (H ++ [growO ((idxsFrom p 0 all).map irow)])) : ∀ (rest : List Tab) (i : Nat) (acc : List Nat), all.drop i = rest → acc ++ idxsFrom p i rest = idxsFrom p 0 all → acc.length ≤ i →
      L18_1 B (Cl B) n f (growV H.length 1 (acc.map irow)) v (all.length : Int) (i : Int) (H ++ [growO (acc.map irow)]) Q
  | [], i, acc, hd, ha, hal => by
    refine L18_1_in (ACall.cle B table) (bs_iff.2 ⟨fun h1 => ?_, fun h1 => J18_2_in ?_⟩)
    · have := drop_nil hd; simp at h1; omega
    · simp only [idxsFrom, List.append_nil] at ha
      rw [ha]; exact tidy_none h
  | t :: r, i, acc, hd, ha, hal => by
    obtain ⟨hget, hlt, hd'⟩ := drop_cons hd
    have ht : t.Ok := hok t (List.mem_of_getElem? hget)
    have hs' : Sl B (H ++ [growO (acc.map irow)]) 36 v (all.map Tab.row) := hs.pre
    refine L18_1_in (ACall.cle B table) (bs_iff.2 ⟨fun _ => ?_, fun h1 => by simp at h1; omega⟩)
    refine op_idx hs' (tab_lt hget) ?_
    rw [(tab_row hs' hget).peekN ht.len, ob_some]
    refine op_alloc (op_st_last rfl ht.len ?_)
    have he : El B (H ++ [growO (acc.map irow)] ++ [.var t.row]) (.ptr (some (.new (H ++ [growO (acc.map irow)]).length, 0))) t.row := El.new (by rw [get_app0]; rfl)
    rw [he.peekN ht.len, ob_some]
    refine hf t ht _ _ ?_
    rw [pBool_bool]
    simp only [idxsFrom] at ha
    refine bs_iff.2 ⟨fun hp => ?_, fun hp => ?_⟩
    · rw [if_pos hp] at ha
      rw [lay_one (c := irow i) rfl rfl, ob_some]
      refine slK_in (op_append (H := H ++ [growO (acc.map irow)] ++ [.var t.row]) (k := H.length) (row := irow i) ?_ (irows_len acc) rfl ?_ ?_)
      · rw [List.append_assoc, get_app0]; rfl
      · simp only [List.length_map, maxBytes]; omega
      · refine J18_0_in ?_
        rw [w64 (n := (i : Int) + 1) (by omega)]
        have e : ((H ++ [growO (acc.map irow)] ++ [AObj.var t.row] ++ [AObj.arr (irow i)]).set H.length .gone ++ [growO (acc.map irow ++ [irow i])]) = H ++ [.gone, .var t.row, .arr (irow i), growO ((acc ++ [i]).map irow)] := by
          rw [List.append_assoc, List.append_assoc, set_app0]; simp
        rw [e]
        have e2 : acc.map irow ++ [irow i] = (acc ++ [i]).map irow := by simp
        rw [e2]
        refine L18_1_tidy (y1 := f) (y5 := growV H.length 1 ((acc ++ [i]).map irow)) (y8 := v) (Cln.pick (L2 := [growO ((acc ++ [i]).map irow)]) hn hH (fun _ => 3) ?_ ?_) ?_ ?_ ?_
          (f18_loop hn hH hv hfl hs hok hsz hf h r (i + 1) (acc ++ [i]) hd' (by simpa using ha) (by simp; omega))
        · intro j k hj hk _; simp at hj hk; omega
        · intro j o2 hj
          cases j with
          | zero => simp only [List.getElem?_cons_zero, Option.some.injEq] at hj; subst hj; exact .inr ⟨rfl, irows_flat _⟩
          | succ j => simp at hj
        · exact Low.rv (fun k hk => pick_low hk) (by subst hn; simp) f hfl
        · refine growV_rv ?_ (by simp)
          rw [← hn, pick_at0]; subst hn; simp
        · exact Low.rv (fun k hk => pick_low hk) (by subst hn; simp) v hv
    · have hp' : ¬ (p t = true) := by simp [hp]
      rw [if_neg hp'] at ha
      refine J18_0_in ?_
      rw [w64 (n := (i : Int) + 1) (by omega), List.append_assoc]
      refine L18_1_tidy (y1 := f) (y5 := growV H.length 1 (acc.map irow)) (y8 := v) (Cln.pick (L2 := [growO (acc.map irow)]) hn hH (fun j => j) (fun _ _ _ _ h => h) ?_) ?_ ?_ ?_
        (f18_loop hn hH hv hfl hs hok hsz hf h r (i + 1) acc hd' ha (by omega))
      · intro j o2 hj
        cases j with
        | zero => simp only [List.getElem?_cons_zero, Option.some.injEq] at hj; subst hj; exact .inr ⟨rfl, irows_flat _⟩
        | succ j => simp at hj
      · exact Low.rv (fun k hk => pick_low hk) (by subst hn; simp) f hfl
      · refine growV_rv ?_ (by simp)
        rw [← hn, pick_at0]; rfl
      · exact Low.rv (fun k hk => pick_low hk) (by subst hn; simp) v hv

theorem f18_ok {B : Base} {H : Heap} {Q : AV → Heap → Prop} {v f : AV} {all : List Tab} {p : Tab → Bool} (hs : Sl B H 36 v (all.map Tab.row)) (hok : ∀ t ∈ all, t.Ok) (hsz : all.length < 17592186044416)
    (hf : Meant B f p) (h : Q (growV H.length 1 ((idxsFrom p 0 all).map irow)) (H ++ [growO ((idxsFrom p 0 all).map irow)])) : Cl B 18 [v, f] H Q := by
  refine f18_in fun n cl hn hcl hH hA => ?_
  subst hcl
  rw [hs.len, ob_some, List.length_map]
  refine L18_1_tidy (H2 := H ++ [.gone]) (y1 := f) (y5 := .nils) (y8 := v) (f := pick n fun j => j) ?_ ?_ rfl ?_ (by
    have h0 := f18_loop hn hH hA.1 hA.2.1 hs hok hsz hf h all 0 [] rfl rfl (Nat.le_refl _)
    simpa [growV, growO] using h0)
  · have := Cln.pick (L := []) (L2 := [.gone]) hn hH (fun j => j) (fun _ _ _ _ h => h) (fun j o2 hj => .inl (by
      cases j with
      | zero => simp at hj; exact hj.symm
      | succ j => simp at hj))
    rwa [List.append_nil] at this
  · exact Low.rv (fun k hk => pick_low hk) (by subst hn; simp) f hA.2.1
  · exact Low.rv (fun k hk => pick_low hk) (by subst hn; simp) v hA.1

end Go.Am

/- The function Pick: what it answers (first part: the range). -/
namespace Go.Am
open Go

theorem meant_on {B : Base} {l : Int} {a b : List UInt8} : Meant B (.func (.func 19) [.agg (spanRow l a b)] []) (onB l) := fun t ht H Q h => f19_ok ht h
theorem meant_over {B : Base} {l : Int} {a b : List UInt8} : Meant B (.func (.func 20) [.agg (spanRow l a b)] []) (overB l a b) := fun t ht H Q h => f20_ok ht h

theorem growV_len (k es : Nat) (rows : List (List AV)) : lenOf (growV k es rows) = some rows.length := by
  unfold growV; split
  · rename_i h; subst h; rfl
  · rfl
theorem growV_live (k es : Nat) (rows : List (List AV)) (K : AV → Prop) (h : K (growV k es rows)) : pLive (growV k es rows) K := by
  rw [pLive_iff]; exact ⟨by unfold growV; split <;> simp, h⟩
theorem growV_sl {B : Base} {H : Heap} {k es : Nat} {rows : List (List AV)} (hg : H[k]? = some (growO rows)) (hl : ∀ r, r ∈ rows → r.length = es) : Sl B H es (growV k es rows) rows := by
  refine ⟨hl, ?_⟩
  unfold growV
  by_cases h : rows = []
  · rw [if_pos h]; exact .inl ⟨rfl, h⟩
  · rw [if_neg h]
    refine .inr ⟨_, _, _, rfl, cellsAt_iff'.2 ⟨rows.flatten, ?_, ?_, ?_⟩⟩
    · simp only [growO, h, if_false] at hg; simp only [cellsOf, hg]
    · rw [flatten_len hl]; omega
    · rw [List.drop_zero, ← flatten_len hl, List.take_length]

/-- Which are merged, of a level that has too many. -/
def ownF (all : List Tab) (lv : Nat) : List Nat := if lv = 0 then idxsFrom (onB lv) 0 all else (idxsFrom (onB lv) 0 all).take 1
def rangeF (all : List Tab) : List Nat → List UInt8 → List UInt8 → List UInt8 × List UInt8
  | [], a, b => (a, b)
  | i :: r, a, b => match all[i]? with
    | some t => rangeF all r (minStrs a [t.first]) (maxStrs b [t.last])
    | none => (a, b)

theorem idxs_mem {p : Tab → Bool} : ∀ {l : List Tab} {k i : Nat}, i ∈ idxsFrom p k l → ∃ t, l[i - k]? = some t ∧ p t = true ∧ k ≤ i
  | [], k, i, h => by simp [idxsFrom] at h
  | t :: r, k, i, h => by
    simp only [idxsFrom] at h
    split at h
    · rename_i hp
      rcases List.mem_cons.1 h with rfl | h
      · exact ⟨t, by simp, hp, Nat.le_refl _⟩
      · obtain ⟨u, h1, h2, h3⟩ := idxs_mem h
        refine ⟨u, ?_, h2, by omega⟩
        have : i - k = (i - (k + 1)) + 1 := by omega
        rw [this]; simpa using h1
    · obtain ⟨u, h1, h2, h3⟩ := idxs_mem h
      refine ⟨u, ?_, h2, by omega⟩
      have : i - k = (i - (k + 1)) + 1 := by omega
      rw [this]; simpa using h1
theorem idxs_len (p : Tab → Bool) : ∀ (l : List Tab) (k : Nat), (idxsFrom p k l).length ≤ l.length
  | [], k => Nat.le_refl _
  | t :: r, k => by have := idxs_len p r (k + 1); simp only [idxsFrom]; split <;> simp <;> omega

section
variable {B : Base} {n : Nat} {H : Heap} {Q : AV → Heap → Prop} {v : AV} {all : List Tab}

/-- The loop that widens the range. -/
theorem f10_range {H1 : Heap} {v6 : AV} {lv : Int} {own : List Nat} (hs : Sl B H1 36 v (all.map Tab.row)) (ho : Sl B H1 1 v6 (own.map irow)) (hok : ∀ t ∈ all, t.Ok) (hin : ∀ i ∈ own, i < all.length) (hsz : own.length < 4611686018427387904)
    {a0 b0 : List UInt8} (h : ∀ a b, rangeF all own a0 b0 = (a, b) → J10_11 B (Cl B) n v lv v6 (.ptr (some (.new H1.length, 0))) (H1 ++ [.var (spanRow (lv + 1) a b)]) Q) :
    ∀ (rest : List Nat) (j : Nat) (a b : List UInt8), own.drop j = rest → rangeF all rest a b = rangeF all own a0 b0 →
      L10_3 B (Cl B) n v lv v6 (.ptr (some (.new H1.length, 0))) v6 (own.length : Int) (j : Int) (H1 ++ [.var (spanRow (lv + 1) a b)]) Q
  | [], j, a, b, hd, hr => by
    refine L10_3_in (ACall.cle B table) ?_
    show bs (decide ((j : Int) < own.length)) _ _
    refine bs_iff.2 ⟨fun h1 => ?_, fun h1 => ?_⟩
    · have := drop_nil hd; simp at h1; omega
    · refine J10_2_in ?_
      rw [pBool_bool, if_neg (by simp)]
      exact h a b hr.symm
  | i :: r, j, a, b, hd, hr => by
    obtain ⟨hget, hlt, hd'⟩ := drop_cons hd
    have hi : i < all.length := hin i (List.mem_of_getElem? hget)
    have hgt : all[i]? = some all[i] := List.getElem?_eq_getElem hi
    have ht : all[i].Ok := hok _ (List.getElem_mem hi)
    refine L10_3_in (ACall.cle B table) ?_
    show bs (decide ((j : Int) < own.length)) _ _
    refine bs_iff.2 ⟨fun h1 => ?_, fun h1 => by simp at h1; omega⟩
    refine J10_2_in ?_
    rw [pBool_bool, if_pos rfl]
    have ho' : Sl B (H1 ++ [.var (spanRow (lv + 1) a b)]) 1 v6 (own.map irow) := ho.pre
    have hrow : (own.map irow)[j]? = some (irow i) := by simp [hget]
    refine op_idx ho' (by simpa using hlt) ?_
    rw [(ho'.el hrow).peek0 (v := .int .i64 (i : Int)) rfl, ob_some, pInt_int]
    refine J10_0_in ?_
    have hsv : ∀ x y, Sl B (H1 ++ [.var (spanRow (lv + 1) x y)]) 36 v (all.map Tab.row) := fun x y => hs.pre
    have he : ∀ x y, El B (H1 ++ [.var (spanRow (lv + 1) x y)]) (.ptr (some (.new H1.length, 0))) (spanRow (lv + 1) x y) := fun x y => El.new (by rw [get_app0]; rfl)
    refine op_fld (he a b) ?_
    rw [(he a b).fld (v := .str a) rfl, ob_some, pStr_str]
    refine tab_first ht (hsv a b) hgt ?_
    refine op_fld (he a b) ?_
    rw [(he a b).fld (v := .str b) rfl, ob_some, pStr_str]
    refine tab_last ht (hsv a b) hgt ?_
    refine op_fld (he a b) ?_
    have hset1 : (H1 ++ [AObj.var (spanRow (lv + 1) a b)]).set H1.length (.var (putAt (spanRow (lv + 1) a b) 1 [.str (minStrs a [all[i].first])])) = H1 ++ [.var (spanRow (lv + 1) (minStrs a [all[i].first]) b)] := by
      rw [set_app0]; rfl
    refine op_st (k := H1.length) (i := 0 + 1) (c := spanRow (lv + 1) a b) rfl rfl (by rw [get_app0]; rfl) (by simp [spanRow]) ?_
    rw [hset1]
    have hst2 := tab_last (B := B) (K := fun x y s => AV.str s = .str all[i].last) ht (hsv (minStrs a [all[i].first]) b) hgt rfl
    refine ⟨rfl, ?_, ?_, ?_, rfl, rfl, ?_⟩
    · rw [(tab_row (hsv (minStrs a [all[i].first]) b) hgt).fld ht.r35, ob_some, pStr_str]
    · exact op_fld (tab_row (hsv (minStrs a [all[i].first]) b) hgt) rfl
    · exact op_idx (hsv (minStrs a [all[i].first]) b) (tab_lt hgt) rfl
    refine op_fld (he _ b) ?_
    have hset2 : (H1 ++ [AObj.var (spanRow (lv + 1) (minStrs a [all[i].first]) b)]).set H1.length (.var (putAt (spanRow (lv + 1) (minStrs a [all[i].first]) b) 2 [.str (maxStrs b [all[i].last])])) = H1 ++ [.var (spanRow (lv + 1) (minStrs a [all[i].first]) (maxStrs b [all[i].last]))] := by
      rw [set_app0]; rfl
    refine op_st (k := H1.length) (i := 0 + 2) (c := spanRow (lv + 1) (minStrs a [all[i].first]) b) rfl rfl (by rw [get_app0]; rfl) (by simp [spanRow]) ?_
    rw [hset2]
    refine J10_1_in ?_
    rw [w64 (n := (j : Int) + 1) (by omega)]
    refine f10_range hs ho hok hin hsz h r (j + 1) _ _ hd' ?_
    rw [← hr]; simp only [rangeF, hgt]
end

end Go.Am

/- The function Pick: what it answers (the rest). -/
namespace Go.Am
open Go

/-! ### A map of numbers -/
def MapIs (es : List (AV × AV × Nat)) (ks : List Nat) : Prop := es.map (fun e => (e.1, e.2.1)) = ks.map fun k : Nat => (AV.int .i64 (k : Int), AV.bool true)

theorem mapIs_find : ∀ {es : List (AV × AV × Nat)} {ks : List Nat}, MapIs es ks → ∀ (i s : Nat),
    (i ∈ ks ∧ ∃ j, findAt (.int .i64) (.int .i64 (i : Int)) es s = some (some (s + j, .bool true)) ∧ ∃ e, es[j]? = some e ∧ e.1 = .int .i64 (i : Int)) ∨
    (i ∉ ks ∧ findAt (.int .i64) (.int .i64 (i : Int)) es s = some none)
  | [], [], _, i, s => .inr ⟨by simp, rfl⟩
  | [], k :: ks, h, _, _ => by simp [MapIs] at h
  | e :: es, [], h, _, _ => by simp [MapIs] at h
  | (a, b, c) :: es, k :: ks, h, i, s => by
    simp only [MapIs, List.map_cons, List.cons.injEq, Prod.mk.injEq] at h
    obtain ⟨⟨rfl, rfl⟩, h2⟩ := h
    by_cases e : i = k
    · subst e
      refine .inl ⟨by simp, 0, ?_, _, rfl, rfl⟩
      simp [findAt, cellEq]
    · have hne : ((i : Int) == (k : Int)) = false := by simp; omega
      rcases mapIs_find (es := es) (ks := ks) h2 i (s + 1) with ⟨h3, j, h4, h5⟩ | ⟨h3, h4⟩
      · refine .inl ⟨by simp [h3], j + 1, ?_, by simpa using h5⟩
        simp only [findAt, cellEq, if_true, hne, h4]
        congr 3; omega
      · refine .inr ⟨by simp [e, h3], ?_⟩
        simp only [findAt, cellEq, if_true, hne, h4]

theorem mapIs_ro {es : List (AV × AV × Nat)} {ks : List Nat} (h : MapIs es ks) (clock : Nat) (f : Nat → Nat) (n : Nat) : RO f n (.map es clock) (.map es clock) := by
  refine ⟨rfl, ?_⟩
  induction es generalizing ks with
  | nil => rfl
  | cons e es ih =>
    obtain ⟨a, b, c⟩ := e
    cases ks with
    | nil => simp [MapIs] at h
    | cons k ks =>
      simp only [MapIs, List.map_cons, List.cons.injEq, Prod.mk.injEq] at h
      obtain ⟨⟨rfl, rfl⟩, h2⟩ := h
      exact ⟨rfl, rfl, rfl, ih h2⟩

theorem op_mapSet {B : Base} {G : Heap} {K : AV → Heap → Prop} {m i : Nat} {es : List (AV × AV × Nat)} {clock : Nat} {ks : List Nat} (hg : G[m]? = some (.map es clock)) (hm : MapIs es ks)
    (hk : ∀ es' clock' ks', MapIs es' ks' → (∀ x, x ∈ ks' ↔ x ∈ ks ∨ x = i) → K .dead (G.set m (.map es' clock'))) : aop B E0 G K (.mapSet (.int .i64) (.const (.map (some (.new m)))) (.const (.int .i64 (i : Int))) (.const (.bool true))) := by
  simp only [aop, opK, Opd.look, ob_some, hg]
  rcases mapIs_find hm i 0 with ⟨h1, j, h2, e, h3, h4⟩ | ⟨h1, h2⟩
  · rw [h2, ob_some]
    simp only [Nat.zero_add]
    refine hk _ _ ks ?_ fun x => ⟨.inl, fun h => h.elim id fun e => by subst e; exact h1⟩
    unfold MapIs at hm ⊢
    rw [← hm]
    apply List.ext_getElem?
    intro t
    simp only [List.getElem?_map, List.getElem?_modify]
    by_cases ht : j = t
    · subst ht
      rw [h3]
      have : (es.map (fun e => (e.1, e.2.1)))[j]? = some (e.1, e.2.1) := by simp [h3]
      rw [hm] at this
      simp only [List.getElem?_map, Option.map_eq_some_iff] at this
      obtain ⟨k, _, hk2⟩ := this
      simp only [Prod.mk.injEq] at hk2
      simp [h4, ← hk2.2]
    · simp [ht]
  · rw [h2, ob_some]
    refine hk _ _ (ks ++ [i]) ?_ fun x => by simp
    unfold MapIs at hm ⊢
    simp [hm]

theorem op_lookup {B : Base} {G : Heap} {K : AV → Heap → Prop} {m i : Nat} {es : List (AV × AV × Nat)} {clock : Nat} {ks : List Nat} (hg : G[m]? = some (.map es clock)) (hm : MapIs es ks)
    (hk : K (.bool (decide (i ∈ ks))) G) : aop B E0 G K (.lookup (.int .i64) .bool (.bool false) false (.const (.map (some (.new m)))) (.const (.int .i64 (i : Int)))) := by
  simp only [aop, opK, Opd.look, ob_some, entriesOf, hg]
  rcases mapIs_find hm i 0 with ⟨h1, j, h2, _⟩ | ⟨h1, h2⟩
  · rw [h2, ob_some]; simpa [lookVal, tyK, h1] using hk
  · rw [h2, ob_some]; simpa [lookVal, tyK, h1] using hk

theorem cellsOf_setMap {B : Base} {G : Heap} {m : Nat} {es es' : List (AV × AV × Nat)} {c c' : Nat} (hg : G[m]? = some (.map es c)) (o : Id) : cellsOf B (G.set m (.map es' c')) o = cellsOf B G o := by
  cases o with
  | base b s => rfl
  | new k =>
    simp only [cellsOf, List.getElem?_set]
    by_cases e : m = k
    · subst e; rw [hg]; simp only [if_true]; split <;> simp_all
    · simp [e]
theorem Sl.setMap {B : Base} {G : Heap} {m es0 : Nat} {es es' : List (AV × AV × Nat)} {c c' : Nat} {v : AV} {rows : List (List AV)} (hg : G[m]? = some (.map es c)) (h : Sl B G es0 v rows) : Sl B (G.set m (.map es' c')) es0 v rows := by
  obtain ⟨h0, h | ⟨o, off, cap, h1, h2⟩⟩ := h
  · exact ⟨h0, .inl h⟩
  · refine ⟨h0, .inr ⟨o, off, cap, h1, ?_⟩⟩
    rw [cellsAt_iff'] at h2 ⊢
    rw [cellsOf_setMap hg]; exact h2

section
variable {B : Base} {n : Nat} {H : Heap} {Q : AV → Heap → Prop} {v : AV} {all : List Tab}

/-- The loop that puts the picked ones into the map. -/
theorem f10_map {G : Heap} {v8 : AV} {lv : Int} {m : Nat} {pk : List Nat} (hs : Sl B G 1 v8 (pk.map irow)) (hm0 : ∃ es c, G[m]? = some (.map es c)) (hsz : pk.length < 4611686018427387904)
    (h : ∀ es clock ks, MapIs es ks → (∀ x, x ∈ ks ↔ x ∈ pk) → J10_9 B (Cl B) n v lv (.map (some (.new m))) (G.set m (.map es clock)) Q) :
    ∀ (rest : List Nat) (j : Nat) (es : List (AV × AV × Nat)) (clock : Nat) (ks : List Nat), pk.drop j = rest → MapIs es ks → (∀ x, x ∈ ks ↔ x ∈ pk.take j) →
      L10_4 B (Cl B) n v lv (.map (some (.new m))) v8 (pk.length : Int) (j : Int) (G.set m (.map es clock)) Q
  | [], j, es, clock, ks, hd, hm, hks => by
    have hl := drop_nil hd
    refine L10_4_in (ACall.cle B table) (bs_iff.2 ⟨fun h1 => ?_, fun h1 => ?_⟩)
    · simp at h1; omega
    · exact h es clock ks hm fun x => by rw [hks, List.take_of_length_le hl]
  | i :: r, j, es, clock, ks, hd, hm, hks => by
    obtain ⟨hget, hlt, hd'⟩ := drop_cons hd
    obtain ⟨es0, c0, hg0⟩ := hm0
    have hml : m < G.length := lt_of_get hg0
    refine L10_4_in (ACall.cle B table) (bs_iff.2 ⟨fun h1 => ?_, fun h1 => by simp at h1; omega⟩)
    have hs' := hs.setMap (es' := es) (c' := clock) hg0
    refine op_idx hs' (by simpa using hlt) ?_
    have hrow : (pk.map irow)[j]? = some (irow i) := by simp [hget]
    rw [(hs'.el hrow).peek0 (v := .int .i64 (i : Int)) rfl, ob_some, pInt_int]
    refine op_mapSet (clock := clock) (es := es) (by rw [List.getElem?_set]; simp [hml]) hm fun es' clock' ks' hm' hks' => ?_
    rw [List.set_set, w64 (n := (j : Int) + 1) (by omega)]
    refine f10_map hs ⟨es0, c0, hg0⟩ hsz h r (j + 1) es' clock' ks' hd' hm' fun x => ?_
    rw [hks', hks, List.take_add_one, hget]
    simp

/-- The loop that lists the picked ones in order. -/
theorem f10_list {lv : Int} {es : List (AV × AV × Nat)} {clock : Nat} {ks : List Nat} (hn : n = H.length) (hH : LowH n H) (hm : MapIs es ks) {len : Nat} (hsz : len < 17592186044416) (hlv : 0 ≤ lv ∧ lv ≤ 2)
    (h : Q (.tuple [growV H.length 1 (((List.range len).filter fun i => decide (i ∈ ks)).map irow), .int .i64 (lv + 1), .bool true]) (H ++ [growO (((List.range len).filter fun i => decide (i ∈ ks)).map irow)])) :
    ∀ (k i : Nat), i + k = len → L10_7 B (Cl B) n lv (.map (some (.new H.length))) (growV (H.length + 1) 1 (((List.range i).filter fun i => decide (i ∈ ks)).map irow)) (len : Int) (i : Int)
      (H ++ [.map es clock, growO (((List.range i).filter fun i => decide (i ∈ ks)).map irow)]) Q
  | 0, i, hi => by
    have : i = len := by omega
    subst this
    refine L10_7_in (ACall.cle B table) ?_
    show bs (decide ((i : Int) < i)) _ _
    refine bs_iff.2 ⟨fun h1 => by simp at h1, fun h1 => J10_6_in ?_⟩
    rw [pBool_bool, if_neg (by simp)]
    refine J10_8_in (.inr ⟨_, _, ⟨_, Cln.pick (L2 := [growO (((List.range i).filter fun i => decide (i ∈ ks)).map irow)]) hn hH (fun _ => 1) ?_ ?_, ?_⟩, h⟩)
    · intro j k hj hk _; simp at hj hk; omega
    · intro j o2 hj
      cases j with
      | zero => simp only [List.getElem?_cons_zero, Option.some.injEq] at hj; subst hj; exact .inr ⟨rfl, irows_flat _⟩
      | succ j => simp at hj
    · refine ⟨growV_rv ?_ (by simp), ?_, rfl, rfl⟩
      · rw [← hn, pick_at0]
      · rw [w64 (by omega)]; rfl
  | k + 1, i, hi => by
    refine L10_7_in (ACall.cle B table) ?_
    show bs (decide ((i : Int) < len)) _ _
    refine bs_iff.2 ⟨fun h1 => J10_6_in ?_, fun h1 => by simp at h1; omega⟩
    rw [pBool_bool, if_pos rfl]
    refine op_lookup (m := H.length) (by rw [get_app0]; rfl) hm ?_
    rw [pBool_bool]
    have hle : ((List.range i).filter fun i => decide (i ∈ ks)).length ≤ i := by
      have := List.length_filter_le (fun i => decide (i ∈ ks)) (List.range i); simpa using this
    have hr : (List.range (i + 1)).filter (fun i => decide (i ∈ ks)) = (List.range i).filter (fun i => decide (i ∈ ks)) ++ (if i ∈ ks then [i] else []) := by
      rw [List.range_succ, List.filter_append]; congr 1; by_cases hik : i ∈ ks <;> simp [hik]
    by_cases hik : i ∈ ks
    · rw [if_pos (by simpa using hik), lay_one (c := irow i) rfl rfl, ob_some]
      rw [if_pos hik] at hr
      generalize hacc : (List.range i).filter (fun i => decide (i ∈ ks)) = acc at *
      refine slK_in (op_append (H := H ++ [.map es clock, growO (acc.map irow)]) (k := H.length + 1) (row := irow i) ?_ (irows_len acc) rfl ?_ ?_)
      · rw [get_app]; rfl
      · simp only [List.length_map, maxBytes]; omega
      · refine J10_5_in ?_
        rw [w64 (n := (i : Int) + 1) (by omega)]
        have e : ((H ++ [.map es clock, growO (acc.map irow)] ++ [AObj.arr (irow i)]).set (H.length + 1) .gone ++ [growO (acc.map irow ++ [irow i])]) = H ++ [.map es clock, .gone, .arr (irow i), growO ((acc ++ [i]).map irow)] := by
          rw [List.append_assoc, set_app]; simp
        rw [e]
        have e2 : acc.map irow ++ [irow i] = (acc ++ [i]).map irow := by simp
        rw [e2, ← hr]
        have ih := f10_list (clock := clock) hn hH hm hsz hlv h k (i + 1) (by omega)
        refine L10_7_tidy (y10 := .map (some (.new H.length))) (y13 := growV (H.length + 1) 1 (((List.range (i + 1)).filter fun i => decide (i ∈ ks)).map irow)) (Cln.pickN (L2 := [.map es clock, growO (((List.range (i + 1)).filter fun i => decide (i ∈ ks)).map irow)]) hn hH (fun j => j * 3) ?_ ?_) ?_ ?_ ih
        · intro j k hj hk e; omega
        · intro j o2 hj
          cases j with
          | zero => simp only [List.getElem?_cons_zero, Option.some.injEq] at hj; subst hj; exact .inr ⟨rfl, mapIs_ro hm clock⟩
          | succ j =>
            cases j with
            | zero => simp only [List.getElem?_cons_succ, List.getElem?_cons_zero, Option.some.injEq] at hj; subst hj; exact .inr ⟨rfl, fun _ _ => (irows_flat _).ro⟩
            | succ j => simp at hj
        · refine ⟨by simp [Id.ok], ?_⟩
          simp only [Id.ren]; rw [← hn, pick_at0]; rfl
        · refine growV_rv ?_ (by simp)
          rw [← hn, pick_at]; simp [hn]
    · rw [if_neg (by simpa using hik)]
      rw [if_neg hik, List.append_nil] at hr
      refine J10_5_in ?_
      rw [w64 (n := (i : Int) + 1) (by omega), ← hr]
      exact f10_list hn hH hm hsz hlv h k (i + 1) (by omega)
end

end Go.Am

/- The function Pick: what it answers, put together. -/
namespace Go.Am
open Go

theorem set_same {G : Heap} {m : Nat} {o : AObj} (h : G[m]? = some o) : G.set m o = G := by
  apply List.ext_getElem?
  intro i
  rw [List.getElem?_set]
  split
  · rename_i e; subst e; rw [h]; simp [lt_of_get h]
  · rfl

theorem op_appendV {B : Base} {G : Heap} {K : AV → Heap → Prop} {k k2 : Nat} {rows1 rows2 : List (List AV)} (h1 : Sl B G 1 (.slice (.new k) 0 rows1.length 1 none) rows1) (hg2 : G[k2]? = some (growO rows2)) (h2 : ∀ r, r ∈ rows2 → r.length = 1) (hb : (rows1.length + rows2.length) * 8 ≤ maxBytes)
    (hk : ∀ v8 G', (G' = G ∨ ∃ c, G' = G.set k .gone ++ [.arr c]) → Sl B G' 1 v8 (rows1 ++ rows2) → K v8 G') : aop B E0 G K (.append 1 8 (.const (.slice (.new k) 0 rows1.length 1 none)) (.const (growV k2 1 rows2))) := by
  have hu : Sl B G 1 (growV k2 1 rows2) rows2 := growV_sl hg2 h2
  have hl2 := flatten_len h2
  simp only [aop, opK, Opd.look, ob_some, growV_len, hu.elems]
  rw [if_pos hl2]
  by_cases h0 : rows2 = []
  · subst h0
    have : appendTo B G 1 8 (.slice (.new k) 0 rows1.length 1 none) ([] : List (List AV)).length ([] : List (List AV)).flatten = some (.slice (.new k) 0 rows1.length 1 none, G) := rfl
    rw [this, ob_some]
    exact hk _ _ (.inl rfl) (by simpa using h1)
  · have hne : rows2.length ≠ 0 := by intro e; exact h0 (List.length_eq_zero_iff.1 e)
    have hc : cellsAt B G (.new k) 0 (rows1.length * 1) = some rows1.flatten := by
      obtain ⟨_, ⟨e, _⟩ | ⟨o, off, cap, e, hc⟩⟩ := h1
      · cases e
      · cases e; exact hc
    rw [appendTo_own hne hb hc, ob_some]
    refine hk _ _ (.inr ⟨_, rfl⟩) ⟨fun r hr => ?_, .inr ⟨_, _, _, by rw [List.length_append], ?_⟩⟩
    · rcases List.mem_append.1 hr with hr | hr
      · exact h1.1 r hr
      · exact h2 r hr
    · have hlen : (G.set k AObj.gone).length = G.length := List.length_set
      refine cellsAt_iff'.2 ⟨rows1.flatten ++ rows2.flatten, ?_, ?_, ?_⟩
      · rw [← hlen]; simp only [cellsOf, get_app0]; rfl
      · simp only [List.length_append]; rw [flatten_len h1.1, hl2]; omega
      · have : (rows1 ++ rows2).length * 1 = (rows1.flatten ++ rows2.flatten).length := by rw [List.length_append, List.length_append, flatten_len h1.1, hl2]; omega
        rw [List.drop_zero, this, List.take_length, List.flatten_append]

/-- Which are merged, of a level. -/
def overF (all : List Tab) (lv : Nat) (own : List Nat) (t0 : Tab) : List Nat :=
  idxsFrom (overB ((lv : Int) + 1) (rangeF all own t0.first t0.last).1 (rangeF all own t0.first t0.last).2) 0 all
def pickAt (all : List Tab) (lv : Nat) : List Nat :=
  match ownF all lv with
  | [] => []
  | i0 :: r => match all[i0]? with
    | none => []
    | some t0 => (List.range all.length).filter fun i => decide (i ∈ (i0 :: r) ++ overF all lv (i0 :: r) t0)
/-- Has a level too many? -/
def many (all : List Tab) (lv : Nat) : Bool := !decide (((idxsFrom (onB lv) 0 all).length : Int) ≤ cap lv)
def pickL (all : List Tab) : List Nat → Option (Nat × List Nat)
  | [] => none
  | lv :: r => if many all lv then some (lv, pickAt all lv) else pickL all r

section
variable {B : Base} {n : Nat} {H : Heap} {Q : AV → Heap → Prop} {v : AV} {all : List Tab}

theorem lay_span (a b : List UInt8) (l : Int) : layParts [.int .i64 0, .str [], .str []] [(0, 1, .int .i64 l), (1, 1, .str a), (2, 1, .str b)] = some (spanRow l a b) := rfl

/-- A level that has too many: what comes out. -/
theorem f10_found {lv : Nat} {own0 : List Nat} {i0 : Nat} {r : List Nat} {t0 : Tab} {o1 : AObj} (hn : n = H.length) (hH : LowH n H) (hv : Low n v) (hs : Sl B H 36 v (all.map Tab.row)) (hok : ∀ t ∈ all, t.Ok) (hsz : all.length < 8796093022208) (hlv : lv ≤ 2)
    (ho : Sl B (H ++ [o1]) 1 (.slice (.new H.length) 0 (i0 :: r).length 1 none) ((i0 :: r).map irow)) (hol : (i0 :: r).length ≤ all.length) (hin : ∀ i ∈ (i0 :: r), i < all.length) (ht0 : all[i0]? = some t0)
    (h : Q (.tuple [growV H.length 1 (((List.range all.length).filter fun i => decide (i ∈ (i0 :: r) ++ overF all lv (i0 :: r) t0)).map irow), .int .i64 ((lv : Int) + 1), .bool true]) (H ++ [growO (((List.range all.length).filter fun i => decide (i ∈ (i0 :: r) ++ overF all lv (i0 :: r) t0)).map irow)])) :
    J10_13 B (Cl B) n v (lv : Int) (.slice (.new H.length) 0 (i0 :: r).length 1 none) (H ++ [o1]) Q := by
  have ht : t0.Ok := hok t0 (List.mem_of_getElem? ht0)
  have hs1 : Sl B (H ++ [o1]) 36 v (all.map Tab.row) := hs.pre
  have hrow : ((i0 :: r).map irow)[0]? = some (irow i0) := rfl
  have pk0 : ∀ {L : Heap}, peek B (H ++ [o1] ++ L) (ept 1 (.slice (.new H.length) 0 (i0 :: r).length 1 none) 0) = some (.int .i64 (i0 : Int)) := fun {L} => ((ho.pre (L := L)).el hrow).peek0 rfl
  have pk1 : peek B (H ++ [o1]) (ept 1 (.slice (.new H.length) 0 (i0 :: r).length 1 none) 0) = some (.int .i64 (i0 : Int)) := (ho.el hrow).peek0 rfl
  refine J10_13_in ?_
  refine op_idx' ho (i := 0) rfl (by simp) ?_
  rw [pk1, ob_some, pInt_int]
  refine tab_first ht hs1 ht0 ?_
  refine op_idx' ho (i := 0) rfl (by simp) ?_
  rw [pk1, ob_some, pInt_int]
  refine tab_last ht hs1 ht0 ?_
  rw [w64 (n := (lv : Int) + 1) (by omega), lay_span, ob_some]
  have hs2 : ∀ {o}, Sl B (H ++ [o1] ++ [o]) 36 v (all.map Tab.row) := fun {o} => hs1.pre
  refine op_alloc ⟨rfl, ?_, op_fld (tab_row hs2 ht0) rfl, op_idx hs2 (tab_lt ht0) rfl, ?_, op_idx' ho.pre (i := 0) rfl (by simp) rfl, rfl, rfl, ?_, op_fld (tab_row hs2 ht0) rfl, op_idx hs2 (tab_lt ht0) rfl, ?_, op_idx' ho.pre (i := 0) rfl (by simp) rfl, rfl, rfl, rfl, rfl, ?_⟩
  · rw [(tab_row hs2 ht0).fld ht.r35, ob_some, pStr_str]
  · rw [pk0, ob_some, pInt_int]
  · rw [(tab_row hs2 ht0).fld ht.r34, ob_some, pStr_str]
  · rw [pk0, ob_some, pInt_int]
  refine op_st_last rfl rfl (J10_12_in ?_)
  rw [ho.len, ob_some, List.length_map]
  refine f10_range hs1 ho hok hin (by omega) (fun a b hab => ?_) _ 0 _ _ rfl rfl
  have hof : overF all lv (i0 :: r) t0 = idxsFrom (overB ((lv : Int) + 1) a b) 0 all := by simp only [overF, hab]
  rw [hof] at h
  generalize hov : idxsFrom (overB ((lv : Int) + 1) a b) 0 all = over at h
  have hovl : over.length ≤ all.length := by rw [← hov]; exact idxs_len _ _ _
  refine J10_11_in ?_
  show J10_10 B (Cl B) n v (lv : Int) (.slice (.new H.length) 0 (i0 :: r).length 1 none) (.ptr (some (.new (H ++ [o1]).length, 0))) (.map (some (.new (H ++ [o1] ++ [AObj.var (spanRow ((lv : Int) + 1) a b)]).length))) (H ++ [o1] ++ [AObj.var (spanRow ((lv : Int) + 1) a b)] ++ [AObj.map [] 0]) Q
  refine J10_10_in ?_
  have hel : El B (H ++ [o1] ++ [AObj.var (spanRow ((lv : Int) + 1) a b)] ++ [AObj.map [] 0]) (.ptr (some (.new (H ++ [o1]).length, 0))) (spanRow ((lv : Int) + 1) a b) := El.pre (El.new (by rw [get_app0]; rfl))
  rw [hel.peekN (n := 3) rfl, ob_some]
  have hs3 : Sl B (H ++ [o1] ++ [AObj.var (spanRow ((lv : Int) + 1) a b)] ++ [AObj.map [] 0]) 36 v (all.map Tab.row) := Sl.pre (Sl.pre hs1)
  refine f18_ok hs3 hok (by omega) meant_over ?_
  rw [hov]
  refine growV_live _ _ _ _ ?_
  generalize hG3 : H ++ [o1] ++ [AObj.var (spanRow ((lv : Int) + 1) a b)] ++ [AObj.map [] 0] = G3 at *
  have hG3l : G3.length = H.length + 3 := by rw [← hG3]; simp
  have hm : (H ++ [o1] ++ [AObj.var (spanRow ((lv : Int) + 1) a b)]).length = H.length + 2 := by simp
  rw [hm]
  have ho3 : Sl B (G3 ++ [growO (over.map irow)]) 1 (.slice (.new H.length) 0 (i0 :: r).length 1 none) ((i0 :: r).map irow) := by rw [← hG3]; exact Sl.pre (Sl.pre (Sl.pre ho))
  have hlm : (i0 :: r).length = ((i0 :: r).map irow).length := by simp
  rw [hlm] at ho3 ⊢
  refine op_appendV ho3 (k2 := G3.length) (by rw [get_app0]; rfl) (irows_len over) (by simp only [List.length_map, maxBytes]; omega) fun v8 G' hG' hsl => ?_
  rw [← List.map_append] at hsl
  rw [hsl.len, ob_some, List.length_map]
  have key : ∀ es clock, ∃ L, G'.set (H.length + 2) (.map es clock) = H ++ L ∧ L[2]? = some (.map es clock) := fun es clock => by
    rcases hG' with rfl | ⟨c, rfl⟩
    · refine ⟨[o1, .var (spanRow ((lv : Int) + 1) a b), .map es clock, growO (over.map irow)], ?_, rfl⟩
      rw [← hG3]; simp only [List.append_assoc, set_app]; rfl
    · refine ⟨[.gone, .var (spanRow ((lv : Int) + 1) a b), .map es clock, growO (over.map irow), .arr c], ?_, rfl⟩
      rw [← hG3]; simp only [List.append_assoc, set_app0, set_app]; rfl
  have hgm : G'[H.length + 2]? = some (.map [] 0) := by
    rcases hG' with rfl | ⟨c, rfl⟩
    · rw [← hG3]; simp only [List.append_assoc, get_app]; rfl
    · rw [← hG3]; simp only [List.append_assoc, set_app0, get_app]; rfl
  have h4 := f10_map (B := B) (n := n) (Q := Q) (v := v) (lv := (lv : Int)) hsl ⟨_, _, hgm⟩ (by simp only [List.length_append]; omega) (fun es clock ks hmi hks => ?_) _ 0 [] 0 [] rfl rfl (fun x => by simp)
  · rw [set_same hgm] at h4; exact h4
  · refine J10_9_in ?_
    rw [hs.len, ob_some, List.length_map]
    obtain ⟨L, hL, hL2⟩ := key es clock
    rw [hL]
    have hfil : ((List.range all.length).filter fun i => decide (i ∈ (i0 :: r) ++ over)) = (List.range all.length).filter fun i => decide (i ∈ ks) := by
      congr 1; funext i; simp only [hks]
    rw [hfil] at h
    have h7 := f10_list (B := B) (lv := (lv : Int)) (clock := clock) hn hH hmi (len := all.length) (by omega) (by omega) h all.length 0 (by omega)
    refine L10_7_tidy (y10 := .map (some (.new H.length))) (y13 := .nils) (Cln.pickN (L2 := [.map es clock, .gone]) hn hH (fun j => 2 + j) (fun _ _ _ _ e => by omega) ?_) ?_ rfl (by simpa [growV, growO] using h7)
    · intro j o2 hj
      cases j with
      | zero => simp only [List.getElem?_cons_zero, Option.some.injEq] at hj; subst hj; exact .inr ⟨hL2, mapIs_ro hmi clock⟩
      | succ j =>
        cases j with
        | zero => simp only [List.getElem?_cons_succ, List.getElem?_cons_zero, Option.some.injEq] at hj; exact .inl hj.symm
        | succ j => simp at hj
    · refine ⟨by simp [Id.ok], ?_⟩
      simp only [Id.ren]; rw [← hn, pick_at0]

/-- The level of which some are picked, and which. -/
theorem f10_levels (hn : n = H.length) (hH : LowH n H) (hv : Low n v) (hs : Sl B H 36 v (all.map Tab.row)) (hok : ∀ t ∈ all, t.Ok) (hsz : all.length < 8796093022208)
    (h0 : pickL all [0, 1, 2] = none → Q (.tuple [.nils, .int .i64 0, .bool false]) H)
    (h1 : ∀ lv l, pickL all [0, 1, 2] = some (lv, l) → Q (.tuple [growV H.length 1 (l.map irow), .int .i64 ((lv : Int) + 1), .bool true]) (H ++ [growO (l.map irow)])) :
    ∀ (k lv : Nat), lv + k = 3 → pickL all ([0, 1, 2].drop lv) = pickL all [0, 1, 2] → L10_18 B (Cl B) n v (lv : Int) H Q
  | 0, lv, hk, hp => by
    have : lv = 3 := by omega
    subst this
    refine L10_18_in (ACall.cle B table) ?_
    show J10_17 B (Cl B) n v 3 (.bool false) H Q
    refine J10_17_in ?_
    rw [pBool_bool, if_neg (by simp)]
    exact J10_19_in (tidy_none (h0 hp.symm))
  | k + 1, lv, hk, hp => by
    have hlv : lv ≤ 2 := by omega
    have hd : [0, 1, 2].drop lv = lv :: [0, 1, 2].drop (lv + 1) := by
      have : lv = 0 ∨ lv = 1 ∨ lv = 2 := by omega
      rcases this with rfl | rfl | rfl <;> rfl
    rw [hd] at hp
    refine L10_18_in (ACall.cle B table) ?_
    show bs (decide ((lv : Int) < 3)) _ _
    refine bs_iff.2 ⟨fun _ => ?_, fun h => by simp at h; omega⟩
    refine J10_17_in ?_
    rw [pBool_bool, if_pos rfl]
    refine J10_16_in ?_
    rw [show layParts [.int .i64 0, .str [], .str []] [(0, 1, .int .i64 (lv : Int))] = some (spanRow (lv : Int) [] []) from rfl, ob_some]
    refine f18_ok hs hok (by omega) meant_on (growV_live _ _ _ _ (J10_15_in ?_))
    rw [growV_len, ob_some, List.length_map]
    refine f14_ok ?_
    rw [pInt_int]
    have hle := idxs_len (onB (lv : Int)) all 0
    refine bs_iff.2 ⟨fun hc => ?_, fun hc => ?_⟩
    · have hm : many all lv = false := by simp only [many, hc]; rfl
      refine L10_18_tidy (y0 := v) (Cln.drop hn hH) (by subst hn; exact hv) ?_
      rw [w64 (n := (lv : Int) + 1) (by omega)]
      refine f10_levels hn hH hv hs hok hsz h0 h1 k (lv + 1) (by omega) ?_
      rw [← hp]; simp only [pickL, hm]; rfl
    · have hm : many all lv = true := by simp only [many, hc]; rfl
      have hres := h1 lv (pickAt all lv) (by rw [← hp]; simp only [pickL, hm, if_true])
      generalize hown : idxsFrom (onB (lv : Int)) 0 all = own0 at *
      have hne : own0 ≠ [] := fun e => by
        subst e
        simp only [List.length_nil] at hc
        have : lv = 0 ∨ lv = 1 ∨ lv = 2 := by omega
        rcases this with rfl | rfl | rfl <;> exact absurd hc (by decide)
      have hin : ∀ i ∈ own0, i < all.length := fun i hi => by
        rw [← hown] at hi
        obtain ⟨t, h2, _, _⟩ := idxs_mem hi
        rcases Nat.lt_or_ge i all.length with h' | h'
        · exact h'
        · rw [Nat.sub_zero, List.getElem?_eq_none h'] at h2; cases h2
      have hgs : Sl B (H ++ [growO (own0.map irow)]) 1 (growV H.length 1 (own0.map irow)) (own0.map irow) := growV_sl (by rw [get_app0]; rfl) (irows_len own0)
      have hmne : own0.map irow ≠ [] := by simpa using hne
      have hgv : growV H.length 1 (own0.map irow) = .slice (.new H.length) 0 (own0.map irow).length 1 none := if_neg hmne
      obtain ⟨i0, r0, rfl⟩ : ∃ i r, own0 = i :: r := by cases own0 with
        | nil => exact absurd rfl hne
        | cons i r => exact ⟨i, r, rfl⟩
      have hi0 : i0 < all.length := hin i0 (by simp)
      have ht0 : all[i0]? = some all[i0] := List.getElem?_eq_getElem hi0
      refine J10_14_in (bs_iff.2 ⟨fun hl => ?_, fun hl => ?_⟩)
      · have hl0 : ¬ lv = 0 := by simp at hl; omega
        have hof : ownF all lv = i0 :: [] := by unfold ownF; rw [if_neg hl0, hown]; rfl
        rw [hgv]
        have hop : ∀ K : AV → Heap → Prop, K (.slice (.new H.length) 0 1 1 none) (H ++ [growO ((i0 :: r0).map irow)]) → aop B E0 (H ++ [growO ((i0 :: r0).map irow)]) K (.sliceL 1 (.const (.slice (.new H.length) 0 ((i0 :: r0).map irow).length 1 none)) none (some (.const (.int .i64 1))) none) := fun K hK => by
          simp only [aop, opK, Opd.look, ob_some, lenOf, optK, pAny_int, sliceOf]
          rw [if_pos ⟨trivial, by omega, by omega, by simp; omega⟩, ob_some]
          exact hK
        refine hop _ ?_
        refine f10_found (r := []) (i0 := i0) (t0 := all[i0]) (own0 := []) hn hH hv hs hok hsz hlv ?_ (by simp; omega) (by simpa using hi0) ht0 ?_
        · obtain ⟨g0, ⟨e, _⟩ | ⟨o, off, cap, e, hc2⟩⟩ := hgs
          · rw [hgv] at e; cases e
          · rw [hgv] at e; cases e
            refine ⟨irows_len [i0], .inr ⟨_, _, _, rfl, ?_⟩⟩
            have := cellsAt_sub hc2 (j := 0) (m := 1) (by simp)
            simpa [irow] using this
        · simpa only [pickAt, hof, ht0] using hres
      · have hl0 : lv = 0 := by simp at hl; omega
        have hof : ownF all lv = i0 :: r0 := by unfold ownF; rw [if_pos hl0]; subst hl0; exact hown
        rw [hgv]
        have e : ((i0 :: r0).map irow).length = (i0 :: r0).length := by simp
        rw [hgv, e] at hgs
        rw [e]
        refine f10_found (r := r0) (i0 := i0) (t0 := all[i0]) (own0 := []) hn hH hv hs hok hsz hlv hgs hle hin ht0 ?_
        simpa only [pickAt, hof, ht0] using hres
end

/-- Pick. -/
theorem f10_ok {B : Base} {H : Heap} {Q : AV → Heap → Prop} {v : AV} {all : List Tab} (hs : Sl B H 36 v (all.map Tab.row)) (hok : ∀ t ∈ all, t.Ok) (hsz : all.length < 8796093022208)
    (h0 : pickL all [0, 1, 2] = none → Q (.tuple [.nils, .int .i64 0, .bool false]) H)
    (h1 : ∀ lv l, pickL all [0, 1, 2] = some (lv, l) → Q (.tuple [growV H.length 1 (l.map irow), .int .i64 ((lv : Int) + 1), .bool true]) (H ++ [growO (l.map irow)])) : Cl B 10 [v] H Q := by
  refine f10_in fun n cl hn hcl hH hA => ?_
  subst hcl
  exact f10_levels hn hH hA.1 hs hok hsz h0 h1 3 0 rfl rfl

end Go.Am

/- The small case that each law begins with: it is as it should be. -/
namespace Go.Am
open Go

theorem tabs_len {l : List Tab} (h : ∀ t ∈ l, t.Ok) : ∀ r, r ∈ l.map Tab.row → r.length = 36 := fun r hr => by
  obtain ⟨t, ht, rfl⟩ := List.mem_map.1 hr
  exact (h t ht).len
theorem lowL_append {n : Nat} : ∀ {a b : List AV}, LowL n a → LowL n b → LowL n (a ++ b)
  | [], _, _, hb => hb
  | _ :: _, _, ha, hb => ⟨ha.1, lowL_append ha.2 hb⟩
theorem Tab.Ok.lowl {t : Tab} (h : t.Ok) : LowL 0 t.row := ⟨rfl, rfl, lowL_append h.low ⟨rfl, rfl, rfl⟩⟩
theorem tabs_flat {l : List Tab} (h : ∀ t ∈ l, t.Ok) : flatO (growO (l.map Tab.row)) := by
  unfold growO
  split
  · trivial
  · have : ∀ l : List Tab, (∀ t ∈ l, t.Ok) → Ones (l.map Tab.row).flatten ∧ LowL 0 (l.map Tab.row).flatten := fun l => by
      induction l with
      | nil => intro _; exact ⟨fun v hv => by simp at hv, rfl⟩
      | cons t r ih =>
        intro h
        have h1 := h t (List.mem_cons_self ..)
        have h2 := ih fun u hu => h u (List.mem_cons_of_mem _ hu)
        simp only [List.map_cons, List.flatten_cons]
        refine ⟨fun v hv => ?_, lowL_append h1.lowl h2.2⟩
        rcases List.mem_append.1 hv with hv | hv
        · exact h1.ones v hv
        · exact h2.1 v hv
    exact this l h

/-- Append of a row of rows. -/
theorem op_appendW {B : Base} {G : Heap} {K : AV → Heap → Prop} {k es bytes : Nat} {rows1 rows2 : List (List AV)} {u : AV} (hg : G[k]? = some (growO rows1)) (h1 : ∀ r, r ∈ rows1 → r.length = es) (hu : Sl B G es u rows2) (hne : rows2 ≠ []) (hb : (rows1.length + rows2.length) * bytes ≤ maxBytes)
    (hk : K (growV G.length es (rows1 ++ rows2)) (G.set k .gone ++ [growO (rows1 ++ rows2)])) : aop B E0 G K (.append es bytes (.const (growV k es rows1)) (.const u)) := by
  have hl2 := flatten_len hu.1
  have hn2 : rows2.length ≠ 0 := by intro e; exact hne (List.length_eq_zero_iff.1 e)
  have hnn : rows1 ++ rows2 ≠ [] := by simp [hne]
  have hlen : (G.set k AObj.gone).length = G.length := List.length_set
  simp only [aop, opK, Opd.look, ob_some, hu.len, hu.elems]
  rw [if_pos hl2]
  simp only [growV, growO, hnn, if_false, List.length_append, List.flatten_append] at hk
  by_cases h0 : rows1 = []
  · subst h0
    have hset : G.set k .gone = G := set_same (by simpa [growO] using hg)
    rw [hset] at hk
    rw [show growV k es [] = .nils from rfl, appendTo_nil hn2 (by simpa using hb), ob_some]
    simpa using hk
  · have hgk : G[k]? = some (.arr rows1.flatten) := by simpa [growO, h0] using hg
    have hc : cellsAt B G (.new k) 0 (rows1.length * es) = some rows1.flatten :=
      cellsAt_iff'.2 ⟨rows1.flatten, by simp only [cellsOf, hgk], by rw [flatten_len h1]; omega, by rw [List.drop_zero, ← flatten_len h1, List.take_length]⟩
    rw [show growV k es rows1 = .slice (.new k) 0 rows1.length es none from if_neg h0, appendTo_own hn2 hb hc, ob_some]
    exact hk

def dig0 : List AV := List.replicate 32 (.int .u8 0)
def tab (l c : Int) (a b : List UInt8) : Tab := ⟨l, c, dig0, a, b⟩
theorem dig0_low : LowL 0 dig0 := by
  unfold dig0
  generalize 32 = k
  induction k with
  | zero => rfl
  | succ k ih => exact ⟨rfl, ih⟩
theorem tab_ok (l c : Int) (a b : List UInt8) : (tab l c a b).Ok := ⟨rfl, dig0_low, fun v hv => by rw [List.eq_of_mem_replicate hv]; rfl⟩
def tA : Tab := tab 0 2 [97] [98]
def tB : Tab := tab 1 3 [98] [99]
def tC : Tab := tab 1 3 [100] [101]
def six : List Tab := [tA, tA, tA, tA, tB, tC]
theorem six_ok : ∀ t ∈ six, t.Ok := fun t ht => by
  simp only [six, List.mem_cons, List.not_mem_nil, or_false] at ht
  rcases ht with rfl | rfl | rfl | rfl | rfl | rfl <;> exact tab_ok _ _ _ _
theorem seven_ok : ∀ t ∈ tA :: six, t.Ok := fun t ht => by
  rcases List.mem_cons.1 ht with rfl | ht
  · exact tab_ok _ _ _ _
  · exact six_ok t ht
theorem pick_seven : pickL (tA :: six) [0, 1, 2] = some (0, [0, 1, 2, 3, 4, 5]) := by kernel_rfl
theorem pick_six : pickL six [0, 1, 2] = none := by kernel_rfl
theorem score_two : scoreF 0 [tab 0 10 [] [], tab 2 5 [] []] = 35 := by kernel_rfl

theorem f9_loop {B : Base} {n : Nat} {H : Heap} {Q : AV → Heap → Prop} (hn : n = H.length) (hH : LowH n H)
    (h : J9_5 B (Cl B) n (growV H.length 36 ((List.replicate 5 tA).map Tab.row)) (H ++ [growO ((List.replicate 5 tA).map Tab.row)]) Q) :
    ∀ (k i : Nat), i + k = 5 → L9_0 B (Cl B) n (growV H.length 36 ((List.replicate i tA).map Tab.row)) (i : Int) (H ++ [growO ((List.replicate i tA).map Tab.row)]) Q
  | 0, i, hi => by
    have : i = 5 := by omega
    subst this
    exact L9_0_in (ACall.cle B table) (bs_iff.2 ⟨fun h1 => by simp at h1, fun _ => h⟩)
  | k + 1, i, hi => by
    have hall : ∀ j, ∀ t ∈ List.replicate j tA, t.Ok := fun j t ht => by rw [List.eq_of_mem_replicate ht]; exact tab_ok _ _ _ _
    refine L9_0_in (ACall.cle B table) (bs_iff.2 ⟨fun _ => ?_, fun h1 => by simp at h1; omega⟩)
    rw [show layParts _ [(1, 1, .int .i64 2), (34, 1, .str [97]), (35, 1, .str [98])] = some tA.row from by kernel_rfl, ob_some,
      show layParts _ [(0, 36, .agg tA.row)] = some tA.row from by kernel_rfl, ob_some]
    have hsl : Sl B (H ++ [growO ((List.replicate i tA).map Tab.row)] ++ [.arr tA.row]) 36 (.slice (.new (H ++ [growO ((List.replicate i tA).map Tab.row)]).length) 0 1 36 (some 1)) [tA.row] :=
      ⟨fun r hr => by rw [List.mem_singleton.1 hr]; rfl, .inr ⟨_, _, _, rfl, cellsAt_iff'.2 ⟨tA.row, by simp only [cellsOf, get_app0]; rfl, by decide, by rfl⟩⟩⟩
    refine slK_in (op_appendW (k := H.length) (rows1 := (List.replicate i tA).map Tab.row) (by rw [List.append_assoc, get_app0]; rfl) (tabs_len (hall i)) hsl (by simp) (by simp [maxBytes]; omega) ?_)
    rw [w64 (n := (i : Int) + 1) (by omega)]
    have e : (List.replicate i tA).map Tab.row ++ [tA.row] = (List.replicate (i + 1) tA).map Tab.row := by rw [List.replicate_succ']; simp
    rw [e]
    have e2 : (H ++ [growO ((List.replicate i tA).map Tab.row)] ++ [AObj.arr tA.row]).set H.length .gone ++ [growO ((List.replicate (i + 1) tA).map Tab.row)] = H ++ [.gone, .arr tA.row, growO ((List.replicate (i + 1) tA).map Tab.row)] := by
      rw [List.append_assoc, set_app0]; simp
    rw [e2]
    refine L9_0_tidy (y1 := growV H.length 36 ((List.replicate (i + 1) tA).map Tab.row)) (Cln.pick (L2 := [growO ((List.replicate (i + 1) tA).map Tab.row)]) hn hH (fun _ => 2) ?_ ?_) ?_ (f9_loop hn hH h k (i + 1) (by omega))
    · intro j k hj hk _; simp at hj hk; omega
    · intro j o2 hj
      cases j with
      | zero => simp only [List.getElem?_cons_zero, Option.some.injEq] at hj; subst hj; exact .inr ⟨rfl, tabs_flat (hall _)⟩
      | succ j => simp at hj
    · refine growV_rv ?_ (by simp)
      rw [← hn, pick_at0]; simp [hn]

end Go.Am

/- The small case that each law begins with: the rest of its walk. -/
namespace Go.Am
open Go

theorem op_ext3 {B : Base} {H : Heap} {K : AV → AV → AV → Prop} {a : AV} {i : Int} {b : Bool} (ha : ∀ K : AV → Prop, K a → pLive a K) (h : K a (.int .i64 i) (.bool b)) :
    pLive (.tuple [a, .int .i64 i, .bool b]) fun v => aop B E0 H (fun x _ => aop B E0 H (fun y _ => aop B E0 H (fun z _ => K x y z) (.extract (some .bool) 2 (.const v))) (.extract (some (.int .i64)) 1 (.const v))) (.extract (some .other) 0 (.const v)) := by
  show pLive a fun x => pInt .i64 (.int .i64 i) fun y => pBool (.bool b) fun z => bs z (K x (.int .i64 y) (.bool true)) (K x (.int .i64 y) (.bool false))
  refine ha _ ?_
  rw [pInt_int, pBool_bool]
  cases b
  · exact h
  · exact h
theorem bs_yes {b : Bool} {x y : Prop} (h : b = true) (hx : x) : bs b x y := by subst h; exact hx
theorem live_nils (K : AV → Prop) (h : K .nils) : pLive .nils K := h

theorem f9_tail {B : Base} {n : Nat} {H : Heap} {Q : AV → Heap → Prop} (hn : n = H.length) (hH : LowH n H) (h : Q (.bool true) H) {G : Heap} {L : List AObj} (hG : G = H ++ L) {k : Nat} (hk : G[k]? = some (growO (([0, 1, 2, 3, 4, 5] : List Nat).map irow))) :
    J9_2 B (Cl B) n (growV k 1 (([0, 1, 2, 3, 4, 5] : List Nat).map irow)) (.int .i64 1) (.bool true) (.bool false) G Q := by
  refine J9_2_in ?_
  rw [show layParts _ [(1, 1, .int .i64 10)] = some (tab 0 10 [] []).row from by kernel_rfl, ob_some,
    show layParts _ [(0, 1, .int .i64 2), (1, 1, .int .i64 5)] = some (tab 2 5 [] []).row from by kernel_rfl, ob_some,
    show layParts _ [(0, 36, .agg (tab 0 10 [] []).row), (36, 36, .agg (tab 2 5 [] []).row)] = some ((tab 0 10 [] []).row ++ (tab 2 5 [] []).row) from by kernel_rfl, ob_some]
  refine slK_in ?_
  have hsl : Sl B (G ++ [.arr ((tab 0 10 [] []).row ++ (tab 2 5 [] []).row)]) 36 (.slice (.new G.length) 0 2 36 (some 2)) ([tab 0 10 [] [], tab 2 5 [] []].map Tab.row) :=
    ⟨tabs_len fun t ht => by
      simp only [List.mem_cons, List.not_mem_nil, or_false] at ht
      rcases ht with rfl | rfl <;> exact tab_ok _ _ _ _, .inr ⟨_, _, _, rfl, cellsAt_iff'.2 ⟨(tab 0 10 [] []).row ++ (tab 2 5 [] []).row, by simp only [cellsOf, get_app0]; rfl, by decide, by rfl⟩⟩⟩
  refine f12_ok hsl (fun t ht => by
      simp only [List.mem_cons, List.not_mem_nil, or_false] at ht
      rcases ht with rfl | rfl <;> exact tab_ok _ _ _ _) (by decide) ?_
  rw [score_two, pInt_int]
  have hk2 : (G ++ [AObj.arr ((tab 0 10 [] []).row ++ (tab 2 5 [] []).row)])[k]? = some (growO (([0, 1, 2, 3, 4, 5] : List Nat).map irow)) := get_pre hk
  have hg : Sl B (G ++ [AObj.arr ((tab 0 10 [] []).row ++ (tab 2 5 [] []).row)]) 1 (growV k 1 (([0, 1, 2, 3, 4, 5] : List Nat).map irow)) (([0, 1, 2, 3, 4, 5] : List Nat).map irow) := growV_sl hk2 (irows_len _)
  refine J9_1_in ?_
  rw [pGuard_bool, bs_true, pInt_int]
  refine bs_yes (by decide) ?_
  rw [growV_len, ob_some]
  refine bs_yes (by decide) ?_
  refine op_idx' hg (i := 5) rfl (by decide) ?_
  rw [(hg.el (row := irow 5) (i := 5) rfl).peek0 (v := .int .i64 5) rfl, ob_some, pInt_int]
  refine bs_yes (by decide) ?_
  rw [pBool_bool, bs_false]
  refine bs_yes (by decide) ?_
  refine f14_ok ?_
  rw [pInt_int]
  refine bs_yes (by decide) ?_
  refine f14_ok ?_
  rw [pInt_int]
  refine bs_yes (by decide) ?_
  refine f14_ok ?_
  rw [pInt_int]
  show tidyK n Q (.bool true) _
  rw [hG, List.append_assoc]
  exact tidy_drop hn hH low_bool h

/-- It is as it should be. -/
theorem f9_ok {B : Base} {H : Heap} {Q : AV → Heap → Prop} (h : Q (.bool true) H) : Cl B 9 [] H Q := by
  refine f9_in fun n cl hn hcl hH hA => ?_
  subst hcl
  refine J9_7_in (J9_6_in ?_)
  suffices hJ : J9_5 B (Cl B) n (growV H.length 36 ((List.replicate 5 tA).map Tab.row)) (H ++ [growO ((List.replicate 5 tA).map Tab.row)]) Q by
    refine L9_0_tidy (H2 := H ++ [.gone]) (y1 := .nils) (f := pick n fun j => j) ?_ rfl (by simpa [growV, growO] using f9_loop hn hH hJ 5 0 rfl)
    have := Cln.pick (L := []) (L2 := [.gone]) hn hH (fun j => j) (fun _ _ _ _ h => h) (fun j o2 hj => .inl (by
      cases j with
      | zero => simp at hj; exact hj.symm
      | succ j => simp at hj))
    rwa [List.append_nil] at this
  refine J9_5_in ?_
  rw [show layParts _ [(0, 1, .int .i64 1), (1, 1, .int .i64 3), (34, 1, .str [98]), (35, 1, .str [99])] = some tB.row from by kernel_rfl, ob_some,
    show layParts _ [(0, 1, .int .i64 1), (1, 1, .int .i64 3), (34, 1, .str [100]), (35, 1, .str [101])] = some tC.row from by kernel_rfl, ob_some,
    show layParts _ [(0, 36, .agg tB.row), (36, 36, .agg tC.row)] = some (tB.row ++ tC.row) from by kernel_rfl, ob_some]
  have hall : ∀ t ∈ List.replicate 5 tA, t.Ok := fun t ht => by rw [List.eq_of_mem_replicate ht]; exact tab_ok _ _ _ _
  have hsl : Sl B (H ++ [growO ((List.replicate 5 tA).map Tab.row)] ++ [.arr (tB.row ++ tC.row)]) 36 (.slice (.new (H ++ [growO ((List.replicate 5 tA).map Tab.row)]).length) 0 2 36 (some 2)) [tB.row, tC.row] :=
    ⟨fun r hr => by
      simp only [List.mem_cons, List.not_mem_nil, or_false] at hr
      rcases hr with rfl | rfl <;> rfl, .inr ⟨_, _, _, rfl, cellsAt_iff'.2 ⟨tB.row ++ tC.row, by simp only [cellsOf, get_app0]; rfl, by decide, by rfl⟩⟩⟩
  refine slK_in (op_appendW (k := H.length) (rows1 := (List.replicate 5 tA).map Tab.row) (by rw [List.append_assoc, get_app0]; rfl) (tabs_len hall) hsl (by simp) (by decide) ?_)
  have e : (List.replicate 5 tA).map Tab.row ++ [tB.row, tC.row] = (tA :: six).map Tab.row := rfl
  rw [e]
  have e2 : (H ++ [growO ((List.replicate 5 tA).map Tab.row)] ++ [AObj.arr (tB.row ++ tC.row)]).set H.length .gone ++ [growO ((tA :: six).map Tab.row)] = H ++ [.gone, .arr (tB.row ++ tC.row), growO ((tA :: six).map Tab.row)] := by
    rw [List.append_assoc, set_app0]; simp
  have e3 : (H ++ [growO ((List.replicate 5 tA).map Tab.row)] ++ [AObj.arr (tB.row ++ tC.row)]).length = H.length + 2 := by simp
  rw [e2, e3]
  generalize hG : H ++ [AObj.gone, .arr (tB.row ++ tC.row), growO ((tA :: six).map Tab.row)] = G
  have hg : G[H.length + 2]? = some (growO ((tA :: six).map Tab.row)) := by rw [← hG, get_app]; rfl
  have hs7 : ∀ {L : Heap}, Sl B (G ++ L) 36 (growV (H.length + 2) 36 ((tA :: six).map Tab.row)) ((tA :: six).map Tab.row) := fun {L} => growV_sl (get_pre hg) (tabs_len seven_ok)
  have hs7' : Sl B G 36 (growV (H.length + 2) 36 ((tA :: six).map Tab.row)) ((tA :: six).map Tab.row) := growV_sl hg (tabs_len seven_ok)
  refine J9_4_in (f10_ok hs7' seven_ok (by decide) (fun hp => by rw [pick_seven] at hp; cases hp) fun lv l hp => ?_)
  rw [pick_seven] at hp
  cases hp
  refine op_ext3 (fun K hK => growV_live _ _ _ K hK) ?_
  refine J9_3_in ?_
  have hop : ∀ (G' : Heap) (K : AV → Heap → Prop), K (.slice (.new (H.length + 2)) 36 6 36 none) G' → aop B E0 G' K (.sliceL 36 (.const (growV (H.length + 2) 36 ((tA :: six).map Tab.row))) (some (.const (.int .i64 1))) none none) := fun G' K hK => by
    show aop B E0 G' K (.sliceL 36 (.const (.slice (.new (H.length + 2)) 0 7 36 none)) (some (.const (.int .i64 1))) none none)
    simp only [aop, opK, Opd.look, ob_some, lenOf, optK, pAny_int, sliceOf]
    rw [if_pos ⟨trivial, by omega, by omega, by omega⟩, ob_some]
    exact hK
  refine hop _ _ ?_
  have hs6 : Sl B (G ++ [growO (([0, 1, 2, 3, 4, 5] : List Nat).map irow)]) 36 (.slice (.new (H.length + 2)) 36 6 36 none) (six.map Tab.row) := by
    refine ⟨tabs_len six_ok, .inr ⟨_, _, _, rfl, ?_⟩⟩
    obtain ⟨_, ⟨e, _⟩ | ⟨o, off, cap, e, hc⟩⟩ := hs7 (L := [growO (([0, 1, 2, 3, 4, 5] : List Nat).map irow)])
    · rw [show growV (H.length + 2) 36 ((tA :: six).map Tab.row) = .slice (.new (H.length + 2)) 0 7 36 none from rfl] at e; cases e
    · rw [show growV (H.length + 2) 36 ((tA :: six).map Tab.row) = .slice (.new (H.length + 2)) 0 7 36 none from rfl] at e
      cases e
      have := cellsAt_sub hc (j := 36) (m := 216) (by decide)
      rw [show ((six.map Tab.row).length * 36) = 216 from rfl]
      rw [Nat.zero_add] at this
      refine Eq.trans this ?_
      exact congrArg some (show List.take 216 (List.drop 36 ((tA :: six).map Tab.row).flatten) = (six.map Tab.row).flatten by kernel_rfl)
  refine f10_ok hs6 six_ok (by decide) (fun _ => ?_) fun lv l hp => by rw [pick_six] at hp; cases hp
  refine op_ext3 live_nils ?_
  refine f9_tail (L := [AObj.gone, .arr (tB.row ++ tC.row), growO ((tA :: six).map Tab.row), growO (([0, 1, 2, 3, 4, 5] : List Nat).map irow)]) hn hH h ?_ ?_
  · rw [← hG]; simp
  · rw [get_app0]; rfl

end Go.Am

/- The function right: tables as there may be. -/
namespace Go.Am
open Go

/-- A slice that was made empty and then only grows. -/
def wV (k es : Nat) (rows : List (List AV)) : AV := if rows = [] then .slice (.new k) 0 0 es (some 0) else .slice (.new k) 0 rows.length es none

theorem wV_rv {f : Nat → Nat} {n a b es : Nat} {rows : List (List AV)} (h1 : f a = b) (h2 : a < n) : RV f n (wV a es rows) (wV b es rows) := by
  unfold wV
  split
  · exact ⟨h2, by simp [Id.ren, h1]⟩
  · exact ⟨h2, by simp [Id.ren, h1]⟩
theorem wV_sl {B : Base} {H : Heap} {k es : Nat} {rows : List (List AV)} (hg : H[k]? = some (.arr rows.flatten)) (hl : ∀ r, r ∈ rows → r.length = es) : Sl B H es (wV k es rows) rows := by
  refine ⟨hl, .inr ?_⟩
  have hc : cellsAt B H (.new k) 0 (rows.length * es) = some rows.flatten := cellsAt_iff'.2 ⟨rows.flatten, by simp only [cellsOf, hg], by rw [flatten_len hl]; omega, by rw [List.drop_zero, ← flatten_len hl, List.take_length]⟩
  unfold wV
  by_cases h : rows = []
  · subst h; exact ⟨_, _, _, rfl, hc⟩
  · rw [if_neg h]; exact ⟨_, _, _, rfl, hc⟩

theorem op_appendE {B : Base} {G : Heap} {K : AV → Heap → Prop} {k es bytes : Nat} {rows1 rows2 : List (List AV)} {u : AV} (hg : G[k]? = some (.arr rows1.flatten)) (h1 : ∀ r, r ∈ rows1 → r.length = es) (hu : Sl B G es u rows2) (hne : rows2 ≠ []) (hb : (rows1.length + rows2.length) * bytes ≤ maxBytes)
    (hk : ∀ o, K (wV G.length es (rows1 ++ rows2)) (G.set k o ++ [.arr (rows1 ++ rows2).flatten])) : aop B E0 G K (.append es bytes (.const (wV k es rows1)) (.const u)) := by
  have hl2 := flatten_len hu.1
  have hn2 : rows2.length ≠ 0 := by intro e; exact hne (List.length_eq_zero_iff.1 e)
  have hnn : rows1 ++ rows2 ≠ [] := by simp [hne]
  simp only [aop, opK, Opd.look, ob_some, hu.len, hu.elems]
  rw [if_pos hl2]
  simp only [wV, hnn, if_false, List.length_append, List.flatten_append] at hk
  have hc : cellsAt B G (.new k) 0 (rows1.length * es) = some rows1.flatten :=
    cellsAt_iff'.2 ⟨rows1.flatten, by simp only [cellsOf, hg], by rw [flatten_len h1]; omega, by rw [List.drop_zero, ← flatten_len h1, List.take_length]⟩
  by_cases h0 : rows1 = []
  · subst h0
    have h2 := hk (.arr ([] : List (List AV)).flatten)
    rw [set_same hg] at h2
    have happ : appendTo B G es bytes (.slice (.new k) 0 0 es (some 0)) rows2.length rows2.flatten = some (.slice (.new G.length) 0 (0 + rows2.length) es none, G ++ [.arr ([] ++ rows2.flatten)]) := by
      show (if rows2.length = 0 then _ else (if es = es then (if 0 + rows2.length ≤ 0 then _ else (if (0 + rows2.length) * bytes ≤ maxBytes then (cellsAt B G (.new k) 0 (0 * es)).map _ else none)) else none)) = _
      rw [if_neg hn2, if_pos rfl, if_neg (by omega), if_pos (by simpa using hb)]
      have : cellsAt B G (.new k) 0 (0 * es) = some [] := by simpa using hc
      rw [this]; rfl
    rw [show wV k es [] = .slice (.new k) 0 0 es (some 0) from rfl, happ, ob_some]
    simpa using h2
  · rw [show wV k es rows1 = .slice (.new k) 0 rows1.length es none from if_neg h0, appendTo_own hn2 hb hc, ob_some]
    exact hk .gone

def gtr (a b : List UInt8) : Bool := !(sLess a b || a == b)
/-- A table as it may be, of a level. -/
def fixT (lv : Int) (t : Tab) : Tab := ⟨lv, IntKind.i64.wrap (1 + bitsOp .and .i64 t.count 63), t.dig, if gtr t.first t.last then t.last else t.first, if gtr t.first t.last then t.first else t.last⟩
def rightL (lv : Int) : List Tab → List Tab
  | [] => []
  | t :: r => if bitsOp .and .i64 t.level 3 = lv then fixT lv t :: rightL lv r else rightL lv r
def rightF (all : List Tab) : List Tab := rightL 0 (all.take 150) ++ rightL 1 (all.take 150) ++ rightL 2 (all.take 150) ++ rightL 3 (all.take 150)

theorem Tab.Ok.fix {t : Tab} (h : t.Ok) (lv : Int) : (fixT lv t).Ok := ⟨h.dig, h.low, h.one⟩
theorem rightL_ok {lv : Int} : ∀ {l : List Tab}, (∀ t ∈ l, t.Ok) → ∀ t ∈ rightL lv l, t.Ok
  | [], _, t, ht => by simp [rightL] at ht
  | u :: r, h, t, ht => by
    have ih := rightL_ok (lv := lv) (l := r) fun x hx => h x (List.mem_cons_of_mem _ hx)
    simp only [rightL] at ht
    split at ht
    · rcases List.mem_cons.1 ht with rfl | ht
      · exact (h u (List.mem_cons_self ..)).fix lv
      · exact ih t ht
    · exact ih t ht
theorem rightL_len (lv : Int) : ∀ l : List Tab, (rightL lv l).length ≤ l.length
  | [] => Nat.le_refl _
  | t :: r => by have := rightL_len lv r; simp only [rightL]; split <;> simp <;> omega

theorem put34 {l c : AV} {dig : List AV} {a b s : AV} (h : dig.length = 32) : putAt (l :: c :: (dig ++ [a, b])) 34 [s] = l :: c :: (dig ++ [s, b]) := by
  show l :: c :: (List.take 32 (dig ++ [a, b]) ++ [s]) ++ List.drop 33 (dig ++ [a, b]) = _
  rw [List.take_append_of_le_length (by omega), List.take_of_length_le (by omega), List.drop_append, List.drop_of_length_le (by omega), h]
  simp
theorem put35 {l c : AV} {dig : List AV} {a b s : AV} (h : dig.length = 32) : putAt (l :: c :: (dig ++ [a, b])) 35 [s] = l :: c :: (dig ++ [a, s]) := by
  show l :: c :: (List.take 33 (dig ++ [a, b]) ++ [s]) ++ List.drop 34 (dig ++ [a, b]) = _
  rw [List.take_append, List.take_of_length_le (by omega), List.drop_append, List.drop_of_length_le (by omega), h]
  simp

section
variable {B : Base} {n : Nat} {H : Heap} {Q : AV → Heap → Prop} {v : AV} {all : List Tab}

/-- One table is put right, and appended. -/
theorem f16_one {lv : Int} {i : Nat} {t : Tab} {Hc : Heap} {x3 : AV} (ht : t.Ok) (hlv : bitsOp .and .i64 t.level 3 = lv)
    (h : J16_1 B (Cl B) n v x3 lv (i : Int) (.ptr (some (.new Hc.length, 0))) (Hc ++ [.var (fixT lv t).row]) Q) :
    J16_5 B (Cl B) n v x3 lv (i : Int) (.ptr (some (.new Hc.length, 0))) (Hc ++ [.var t.row]) Q := by
  have el : ∀ r : List AV, El B (Hc ++ [.var r]) (.ptr (some (.new Hc.length, 0))) r := fun r => El.new (by rw [get_app0]; rfl)
  refine J16_5_in (op_fld (el _) ?_)
  rw [(el t.row).fld (v := .int .i64 t.level) rfl, ob_some, pInt_int]
  refine bs_iff.2 ⟨fun h1 => by simp [hlv] at h1, fun _ => ?_⟩
  refine J16_4_in (op_fld (el _) ?_)
  refine op_st (k := Hc.length) (i := 0 + 0) (c := t.row) rfl rfl (by rw [get_app0]; rfl) (by rw [ht.len]; decide) ?_
  let t1 : Tab := ⟨lv, t.count, t.dig, t.first, t.last⟩
  rw [show (Hc ++ [AObj.var t.row]).set Hc.length (.var (putAt t.row (0 + 0) [.int .i64 lv])) = Hc ++ [.var t1.row] from by rw [set_app0]; rfl]
  refine J16_3_in (op_fld (el _) ?_)
  rw [(el t1.row).fld (v := .int .i64 t.count) rfl, ob_some, pInt_int]
  refine op_fld (el _) ?_
  have ht1 : t1.Ok := ⟨ht.dig, ht.low, ht.one⟩
  refine op_st (k := Hc.length) (i := 0 + 1) (c := t1.row) rfl rfl (by rw [get_app0]; rfl) (by rw [ht1.len]; decide) ?_
  let t2 : Tab := ⟨lv, IntKind.i64.wrap (1 + bitsOp .and .i64 t.count 63), t.dig, t.first, t.last⟩
  rw [show (Hc ++ [AObj.var t1.row]).set Hc.length (.var (putAt t1.row (0 + 1) [.int .i64 (IntKind.i64.wrap (1 + bitsOp .and .i64 t.count 63))])) = Hc ++ [.var t2.row] from by rw [set_app0]; rfl]
  have ht2 : t2.Ok := ⟨ht.dig, ht.low, ht.one⟩
  refine J16_2_in (op_fld (el _) ?_)
  rw [(el t2.row).fld ht2.r34, ob_some, pStr_str]
  refine op_fld (el _) ?_
  rw [(el t2.row).fld ht2.r35, ob_some, pStr_str]
  show bs (gtr t.first t.last) _ _
  refine bs_iff.2 ⟨fun hg => J16_0_in ?_, fun hg => J16_0_in ?_⟩
  · rw [pBool_bool, if_pos rfl]
    refine op_fld (el _) ?_
    rw [(el t2.row).fld ht2.r35, ob_some, pStr_str]
    refine op_fld (el _) ?_
    rw [(el t2.row).fld ht2.r34, ob_some, pStr_str]
    refine op_fld (el _) ?_
    refine op_st (k := Hc.length) (i := 0 + 34) (c := t2.row) rfl rfl (by rw [get_app0]; rfl) (by rw [ht2.len]; decide) ?_
    let t3 : Tab := ⟨lv, IntKind.i64.wrap (1 + bitsOp .and .i64 t.count 63), t.dig, t.last, t.last⟩
    have ht3 : t3.Ok := ⟨ht.dig, ht.low, ht.one⟩
    rw [show (Hc ++ [AObj.var t2.row]).set Hc.length (.var (putAt t2.row (0 + 34) [.str t2.last])) = Hc ++ [.var t3.row] from by
      rw [set_app0, Nat.zero_add, Tab.row, put34 ht.dig]; rfl]
    refine op_fld (el _) ?_
    refine op_st (k := Hc.length) (i := 0 + 35) (c := t3.row) rfl rfl (by rw [get_app0]; rfl) (by rw [ht3.len]; decide) ?_
    rw [show (Hc ++ [AObj.var t3.row]).set Hc.length (.var (putAt t3.row (0 + 35) [.str t2.first])) = Hc ++ [.var (fixT lv t).row] from by
      rw [set_app0, Nat.zero_add, Tab.row, put35 ht.dig]; simp only [fixT, hg, if_true, Tab.row]; rfl]
    exact h
  · rw [pBool_bool, if_neg (by simp)]
    have e : (fixT lv t).row = t2.row := by simp only [fixT, hg]; rfl
    rw [e] at h
    exact h

theorem bs_dec {p : Prop} [inst : Decidable p] {x y : Prop} (h1 : p → x) (h2 : ¬ p → y) : bs (decide p) x y := bs_iff.2 ⟨fun h => h1 (of_decide_eq_true h), fun h => h2 (of_decide_eq_false h)⟩
theorem lay_row {z row : List AV} {n : Nat} (hz : z.length = n) (hr : row.length = n) : layParts z [(0, n, .agg row)] = some row := by
  simp only [layParts, AV.cells?]
  rw [if_pos ⟨hr, by omega⟩, putAt_all (by omega)]
theorem arr_flat {l : List Tab} (h : ∀ t ∈ l, t.Ok) : flatO (.arr (l.map Tab.row).flatten) := by
  cases l with
  | nil => exact ⟨fun v hv => by simp at hv, rfl⟩
  | cons t r =>
    have := tabs_flat h
    simpa [growO] using this

set_option maxRecDepth 100000 in
/-- A round over all tables, for a level. -/
theorem f16_inner {lv : Int} {pre : List Tab} (hn : n = H.length) (hH : LowH n H) (hv : Low n v) (hs : Sl B H 36 v (all.map Tab.row)) (hok : ∀ t ∈ all, t.Ok) (hpre : ∀ t ∈ pre, t.Ok) (hb : pre.length ≤ 500)
    (h : J16_9 B (Cl B) n v (wV H.length 36 ((pre ++ rightL lv (all.take 150)).map Tab.row)) lv (H ++ [.arr ((pre ++ rightL lv (all.take 150)).map Tab.row).flatten]) Q) :
    ∀ (rest : List Tab) (i : Nat) (acc : List Tab), (all.take 150).drop i = rest → (∀ t ∈ acc, t.Ok) → acc.length ≤ pre.length + i → acc ++ rightL lv rest = pre ++ rightL lv (all.take 150) →
      L16_8 B (Cl B) n v (wV H.length 36 (acc.map Tab.row)) lv (i : Int) (H ++ [.arr (acc.map Tab.row).flatten]) Q
  | [], i, acc, hd, hacc, hal, ha => by
    have hl := drop_nil hd
    simp only [List.length_take] at hl
    simp only [rightL, List.append_nil] at ha
    rw [← ha] at h
    refine L16_8_in (ACall.cle B table) ?_
    rw [hs.len, ob_some, List.length_map]
    refine bs_dec (fun h1 => ?_) fun _ => h
    refine bs_dec (fun h2 => ?_) fun _ => h
    omega
  | t :: r, i, acc, hd, hacc, hal, ha => by
    obtain ⟨hget, hlt, hd'⟩ := drop_cons hd
    simp only [List.length_take] at hlt
    have hget' : all[i]? = some t := by rw [List.getElem?_take] at hget; split at hget; exact hget; cases hget
    have ht : t.Ok := hok t (List.mem_of_getElem? hget')
    have hs1 : Sl B (H ++ [.arr (acc.map Tab.row).flatten]) 36 v (all.map Tab.row) := hs.pre
    have low : ∀ (g : Nat → Nat) (m : Nat), n ≤ m → RV (pick n g) m v v := fun g m hm => Low.rv (fun k hk => pick_low hk) hm v hv
    refine L16_8_in (ACall.cle B table) ?_
    rw [hs.len, ob_some, List.length_map]
    refine bs_dec (fun _ => ?_) fun h1 => by omega
    refine bs_dec (fun _ => ?_) fun h2 => by omega
    refine J16_7_in (op_idx hs1 (tab_lt hget') ?_)
    rw [(tab_row hs1 hget').peekN ht.len, ob_some]
    refine op_alloc (op_st_last rfl ht.len ?_)
    simp only [rightL] at ha
    by_cases hm : bitsOp .and .i64 t.level 3 = lv
    · rw [if_pos hm] at ha
      refine f16_one ht hm (J16_1_in ?_)
      have hf := ht.fix lv
      have el : El B (H ++ [.arr (acc.map Tab.row).flatten] ++ [.var (fixT lv t).row]) (.ptr (some (.new (H ++ [AObj.arr (acc.map Tab.row).flatten]).length, 0))) (fixT lv t).row := El.new (by rw [get_app0]; rfl)
      rw [el.peekN hf.len, ob_some, lay_row (n := 36) ?hz hf.len, ob_some]
      case hz => rfl
      generalize hrow : (fixT lv t).row = row at *
      have hrl : row.length = 36 := by rw [← hrow]; exact hf.len
      have hsl : Sl B (H ++ [.arr (acc.map Tab.row).flatten] ++ [.var row] ++ [.arr row]) 36 (.slice (.new (H ++ [AObj.arr (acc.map Tab.row).flatten] ++ [AObj.var row]).length) 0 1 36 (some 1)) [row] :=
        ⟨fun r hr => by rw [List.mem_singleton.1 hr]; exact hrl, .inr ⟨_, _, _, rfl, cellsAt_iff'.2 ⟨row, by simp only [cellsOf, get_app0]; rfl, by simp [hrl], by simp [← hrl]⟩⟩⟩
      refine slK_in (op_appendE (k := H.length) (rows1 := acc.map Tab.row) (by rw [List.append_assoc, List.append_assoc, get_app0]; rfl) (tabs_len hacc) hsl (by simp) (by simp [maxBytes]; omega) fun o => ?_)
      have e : acc.map Tab.row ++ [row] = (acc ++ [fixT lv t]).map Tab.row := by simp [hrow]
      rw [e]
      have e2 : (H ++ [AObj.arr (acc.map Tab.row).flatten] ++ [AObj.var row] ++ [AObj.arr row]).set H.length o ++ [.arr ((acc ++ [fixT lv t]).map Tab.row).flatten] = H ++ [o, .var row, .arr row, .arr ((acc ++ [fixT lv t]).map Tab.row).flatten] := by
        rw [List.append_assoc, List.append_assoc, set_app0]; simp
      have e3 : (H ++ [AObj.arr (acc.map Tab.row).flatten] ++ [AObj.var row] ++ [AObj.arr row]).length = H.length + 3 := by simp
      rw [e2, e3]
      have hacc' : ∀ t' ∈ acc ++ [fixT lv t], t'.Ok := fun t' ht' => by
        rcases List.mem_append.1 ht' with ht' | ht'
        · exact hacc t' ht'
        · rw [List.mem_singleton.1 ht']; exact hf
      refine J16_6_in ?_
      rw [w64 (n := (i : Int) + 1) (by omega)]
      refine L16_8_tidy (y0 := v) (y3 := wV H.length 36 ((acc ++ [fixT lv t]).map Tab.row)) (Cln.pick (L2 := [.arr ((acc ++ [fixT lv t]).map Tab.row).flatten]) hn hH (fun _ => 3) ?_ ?_) (low _ _ (by subst hn; simp)) ?_
        (f16_inner hn hH hv hs hok hpre hb h r (i + 1) (acc ++ [fixT lv t]) hd' hacc' (by simp; omega) (by simpa using ha))
      · intro j k hj hk _; simp at hj hk; omega
      · intro j o2 hj
        cases j with
        | zero => simp only [List.getElem?_cons_zero, Option.some.injEq] at hj; subst hj; exact .inr ⟨rfl, arr_flat hacc'⟩
        | succ j => simp at hj
      · refine wV_rv ?_ (by simp)
        rw [← hn, pick_at0]
    · rw [if_neg hm] at ha
      have el : El B (H ++ [.arr (acc.map Tab.row).flatten] ++ [.var t.row]) (.ptr (some (.new (H ++ [AObj.arr (acc.map Tab.row).flatten]).length, 0))) t.row := El.new (by rw [get_app0]; rfl)
      refine J16_5_in (op_fld el ?_)
      rw [el.fld (v := .int .i64 t.level) rfl, ob_some, pInt_int]
      refine bs_iff.2 ⟨fun _ => J16_6_in ?_, fun h1 => by simp [hm] at h1⟩
      rw [w64 (n := (i : Int) + 1) (by omega), List.append_assoc]
      refine L16_8_tidy (y0 := v) (y3 := wV H.length 36 (acc.map Tab.row)) (Cln.pick (L2 := [.arr (acc.map Tab.row).flatten]) hn hH (fun j => j) (fun _ _ _ _ h => h) ?_) (low _ _ (by subst hn; simp)) ?_
        (f16_inner hn hH hv hs hok hpre hb h r (i + 1) acc hd' hacc (by omega) ha)
      · intro j o2 hj
        cases j with
        | zero => simp only [List.getElem?_cons_zero, Option.some.injEq] at hj; subst hj; exact .inr ⟨rfl, arr_flat hacc⟩
        | succ j => simp at hj
      · refine wV_rv ?_ (by simp)
        rw [← hn, pick_at0]; rfl

/-- The rounds, one for each level. -/
theorem f16_outer (hn : n = H.length) (hH : LowH n H) (hv : Low n v) (hs : Sl B H 36 v (all.map Tab.row)) (hok : ∀ t ∈ all, t.Ok) {lv : Nat} {pre : List Tab} (hlv : lv < 4) (hpre : ∀ t ∈ pre, t.Ok) (hb : pre.length ≤ 500)
    (h : L16_10 B (Cl B) n v (wV H.length 36 ((pre ++ rightL (lv : Int) (all.take 150)).map Tab.row)) ((lv + 1 : Nat) : Int) (H ++ [.arr ((pre ++ rightL (lv : Int) (all.take 150)).map Tab.row).flatten]) Q) :
    L16_10 B (Cl B) n v (wV H.length 36 (pre.map Tab.row)) (lv : Int) (H ++ [.arr (pre.map Tab.row).flatten]) Q := by
  refine L16_10_in (ACall.cle B table) (bs_iff.2 ⟨fun _ => ?_, fun h1 => by simp at h1; omega⟩)
  refine f16_inner hn hH hv hs hok hpre hb (J16_9_in ?_) _ 0 pre rfl hpre (by omega) rfl
  rw [w64 (n := (lv : Int) + 1) (by omega)]
  exact h

theorem f16_ok (hs : Sl B H 36 v (all.map Tab.row)) (hok : ∀ t ∈ all, t.Ok)
    (h : Q (wV H.length 36 ((rightF all).map Tab.row)) (H ++ [.arr ((rightF all).map Tab.row).flatten])) : Cl B 16 [v] H Q := by
  refine f16_in fun n cl hn hcl hH hA => ?_
  subst hcl
  rw [show layParts [] [] = some [] from rfl, ob_some]
  refine slK_in ?_
  have hok' : ∀ t ∈ all.take 150, t.Ok := fun t ht => hok t (List.mem_of_mem_take ht)
  have hl : ∀ lv, (rightL lv (all.take 150)).length ≤ 150 := fun lv => by
    have := rightL_len lv (all.take 150)
    simp only [List.length_take] at this; omega
  have r := fun lv => rightL_ok (lv := lv) hok'
  have ap : ∀ {a b : List Tab}, (∀ t ∈ a, t.Ok) → (∀ t ∈ b, t.Ok) → ∀ t ∈ a ++ b, t.Ok := fun ha hb t ht => (List.mem_append.1 ht).elim (ha t) (hb t)
  refine f16_outer (pre := []) (lv := 0) hn hH hA.1 hs hok (by omega) (fun t ht => by simp at ht) (by simp) ?_
  refine f16_outer (pre := [] ++ rightL 0 (all.take 150)) (lv := 1) hn hH hA.1 hs hok (by omega) (ap (fun t ht => by simp at ht) (r 0)) (by have := hl 0; simp; omega) ?_
  refine f16_outer (pre := [] ++ rightL 0 (all.take 150) ++ rightL 1 (all.take 150)) (lv := 2) hn hH hA.1 hs hok (by omega) (ap (ap (fun t ht => by simp at ht) (r 0)) (r 1)) (by have := hl 0; have := hl 1; simp; omega) ?_
  refine f16_outer (pre := [] ++ rightL 0 (all.take 150) ++ rightL 1 (all.take 150) ++ rightL 2 (all.take 150)) (lv := 3) hn hH hA.1 hs hok (by omega) (ap (ap (ap (fun t ht => by simp at ht) (r 0)) (r 1)) (r 2)) (by have := hl 0; have := hl 1; have := hl 2; simp; omega) ?_
  refine L16_10_in (ACall.cle B table) (bs_iff.2 ⟨fun h1 => by simp at h1, fun _ => J16_11_in (tidy_none ?_)⟩)
  simpa [rightF] using h
end

end Go.Am

/- The law's arguments: slices of tables, as the ground has them. -/
namespace Go.Am
open Go Go.Proofs

def tysT : List Ty := .int .i64 :: .int .i64 :: (List.replicate 32 (.int .u8) ++ [.str, .str])
theorem kinds_tab : kinds Try.prog 6 32 = some tysT := by kernel_rfl
theorem kinds_int : kinds Try.prog 6 3 = some [.int .i64] := by kernel_rfl
theorem cells_tab : Try.prog.cellsOf 32 = tysT.length := by kernel_rfl

/-- The digest's cells are bytes. -/
def Tab.U8 (t : Tab) : Prop := ∀ v, v ∈ t.dig → ∃ n, v = .int .u8 n

theorem tab_of_row {r : List AV} (h : rowIs tysT r) : ∃ t : Tab, r = t.row ∧ t.Ok ∧ t.U8 := by
  obtain ⟨hl, hg⟩ := h
  match r, hl with
  | a :: b :: rest, hl =>
    have hrl : rest.length = 34 := by
      have : (a :: b :: rest).length = 36 := hl
      simpa using this
    obtain ⟨_, h0, lv, rfl, _⟩ := hg 0 (.int .i64) rfl
    cases h0
    obtain ⟨_, h1, ct, rfl, _⟩ := hg 1 (.int .i64) rfl
    cases h1
    obtain ⟨x, h34, fs, rfl, _⟩ := hg 34 .str rfl
    obtain ⟨y, h35, ls, rfl, _⟩ := hg 35 .str rfl
    have e34 : rest[32]? = some (.str fs) := h34
    have e35 : rest[33]? = some (.str ls) := h35
    have hd : rest.drop 32 = [.str fs, .str ls] := by
      apply List.ext_getElem?
      intro i
      rw [List.getElem?_drop]
      match i with
      | 0 => exact e34
      | 1 => exact e35
      | i + 2 => rw [List.getElem?_eq_none (by omega)]; rfl
    refine ⟨⟨lv, ct, rest.take 32, fs, ls⟩, ?_, ⟨by simp [hrl], ?_, ?_⟩, ?_⟩
    · show _ :: _ :: rest = _ :: _ :: (rest.take 32 ++ [.str fs, .str ls])
      rw [← hd, List.take_append_drop]
    all_goals
      have hdig : ∀ i, i < 32 → ∃ n, (rest.take 32)[i]? = some (.int .u8 n) := fun i hi => by
        obtain ⟨u, hu, n, rfl, _⟩ := hg (i + 2) (.int .u8) (by
          show (List.replicate 32 (Ty.int .u8) ++ [.str, .str])[i]? = _
          rw [List.getElem?_append_left (by simpa using hi), List.getElem?_replicate, if_pos hi])
        exact ⟨n, by rw [List.getElem?_take, if_pos hi]; exact hu⟩
      have hall : ∀ u ∈ rest.take 32, ∃ n, u = .int .u8 n := fun u hu => by
        obtain ⟨i, hi⟩ := List.mem_iff_getElem?.1 hu
        have hlt : i < 32 := by
          rcases Nat.lt_or_ge i 32 with h | h
          · exact h
          · rw [List.getElem?_take, if_neg (by omega)] at hi; cases hi
        obtain ⟨n, hn⟩ := hdig i hlt
        rw [hi] at hn; cases hn; exact ⟨n, rfl⟩
    · show LowL 0 (rest.take 32)
      revert hall
      generalize rest.take 32 = l
      intro hall
      induction l with
      | nil => rfl
      | cons u r ih =>
        obtain ⟨n, rfl⟩ := hall u (List.mem_cons_self ..)
        exact ⟨rfl, ih fun x hx => hall x (List.mem_cons_of_mem _ hx)⟩
    · intro u hu
      obtain ⟨n, rfl⟩ := hall u hu
      rfl
    · exact hall

theorem tabs_of_rows : ∀ {rows : List (List AV)}, (∀ r, r ∈ rows → rowIs tysT r) → ∃ all : List Tab, rows = all.map Tab.row ∧ ∀ t ∈ all, t.Ok ∧ t.U8
  | [], _ => ⟨[], rfl, fun t ht => by simp at ht⟩
  | r :: rs, h => by
    obtain ⟨t, ht, hk⟩ := tab_of_row (h r (List.mem_cons_self ..))
    obtain ⟨all, ha, hok⟩ := tabs_of_rows (rows := rs) fun x hx => h x (List.mem_cons_of_mem _ hx)
    exact ⟨t :: all, by rw [ht, ha]; rfl, fun u hu => (List.mem_cons.1 hu).elim (fun e => by rw [e]; exact hk) (hok u)⟩

section
variable {X : Type} {enc : TypeId × Value → X} {W : World} {base : Nat}

/-- A slice of tables among the arguments. -/
theorem arg_tabs {v : Value} {d : DataW X} {p : List MemPlace} (hval : Value.okWide Try.prog W .any base 22 v) (hd : DataW.Trod enc Try.prog W 0 (fun _ => true) true 22 v d p) :
    ∃ (av : AV) (all : List Tab), VR 0 plc0 av v ∧ Sl (baseOf W) [] 36 av (all.map Tab.row) ∧ ∀ t ∈ all, t.Ok ∧ t.U8 := by
  obtain ⟨av, rows, h1, h2, h3⟩ := arg_slice (e := 32) Try.underlying22 kinds_tab cells_tab (by decide) hval hd
  obtain ⟨all, rfl, hok⟩ := tabs_of_rows h3
  exact ⟨av, all, h1, h2, hok⟩
end

end Go.Am

/- Texts: which is ahead is a total order. -/
namespace Go.Am
open Go

theorem sLess_total : ∀ (a b : List UInt8), (sLess a b || a == b) = !(sLess b a)
  | [], [] => rfl
  | [], _ :: _ => rfl
  | _ :: _, [] => rfl
  | x :: a, y :: b => by
    have ih := sLess_total a b
    have e1 : sLess (x :: a) (y :: b) = (decide (x < y) || (x == y && sLess a b)) := rfl
    have e2 : sLess (y :: b) (x :: a) = (decide (y < x) || (y == x && sLess b a)) := rfl
    rw [e1, e2]
    by_cases h1 : x = y
    · subst h1
      have hlt : ¬ x < x := UInt8.lt_irrefl x
      simpa [hlt] using ih
    · by_cases h2 : x < y
      · have h3 : ¬ y < x := fun h => UInt8.lt_asymm h2 h
        simp [h2, h3, Ne.symm h1]
      · have h3 : y < x := by
          rcases UInt8.lt_or_lt_of_ne h1 with h | h
          · exact absurd h h2
          · exact h
        simp [h1, h2, h3]
theorem sLess_irrefl (a : List UInt8) : sLess a a = false := by
  have := sLess_total a a
  simpa using this
theorem min_same (a : List UInt8) : minStrs a [a] = a := by simp [minStrs]
theorem max_same (a : List UInt8) : maxStrs a [a] = a := by simp [maxStrs]
theorem min_if (a b : List UInt8) : minStrs a [b] = if sLess b a = true then b else a := by
  simp only [minStrs, sLess_total]
  cases sLess b a <;> simp
theorem max_if (a b : List UInt8) : maxStrs a [b] = if gtr b a = true then b else a := by
  simp only [maxStrs, gtr, sLess_total]
  cases sLess a b <;> simp

end Go.Am

/- The document's Pick: its first loop, which marks its own tables and finds their range. -/
namespace Go.Am
open Go

def brow (b : Bool) : List AV := [.bool b]
theorem brows_len (l : List Bool) : ∀ r, r ∈ l.map brow → r.length = 1 := fun r hr => by
  obtain ⟨i, _, rfl⟩ := List.mem_map.1 hr; rfl
theorem brows_flat (l : List Bool) : flatO (.arr (l.map brow).flatten) := by
  have : Ones (l.map brow).flatten ∧ LowL 0 (l.map brow).flatten := by
    induction l with
    | nil => exact ⟨fun v hv => by simp at hv, rfl⟩
    | cons i r ih =>
      refine ⟨fun v hv => ?_, ?_⟩
      · simp only [List.map_cons, List.flatten_cons, brow, List.mem_append, List.mem_singleton] at hv
        rcases hv with rfl | hv
        · rfl
        · exact ih.1 v hv
      · exact ⟨rfl, ih.2⟩
  exact this

/-- Is it one of its own? -/
def mineB (lv : Int) (s : Bool) (t : Tab) : Bool := (t.level == lv) && ((lv == 0) || !s)
def minesF (lv : Int) : Bool → List Tab → List Bool
  | _, [] => []
  | s, t :: r => mineB lv s t :: minesF lv (s || mineB lv s t) r
def rngF (lv : Int) : Bool → List UInt8 → List UInt8 → List Tab → List UInt8 × List UInt8
  | _, a, b, [] => (a, b)
  | s, a, b, t :: r => if mineB lv s t = true then rngF lv true (if (!s || sLess t.first a) = true then t.first else a) (if (!s || gtr t.last b) = true then t.last else b) r else rngF lv s a b r

section
variable {B : Base} {n : Nat} {H : Heap} {Q : AV → Heap → Prop} {v : AV} {all : List Tab}

theorem f11_mark {lv : Int} (hn : n = H.length) (hH : LowH n H) (hv : Low n v) (hs : Sl B H 36 v (all.map Tab.row)) (hok : ∀ t ∈ all, t.Ok) (hsz : all.length < 8796093022208)
    (h : J11_17 B (Cl B) n v lv (.str (rngF lv false [] [] all).1) (.str (rngF lv false [] [] all).2) (wV H.length 1 ((minesF lv false all).map brow)) (H ++ [.arr ((minesF lv false all).map brow).flatten]) Q) :
    ∀ (rest : List Tab) (i : Nat) (s : Bool) (a b : List UInt8) (acc : List Bool), all.drop i = rest → acc.length = i → acc ++ minesF lv s rest = minesF lv false all → rngF lv s a b rest = rngF lv false [] [] all →
      L11_11 B (Cl B) n v lv (.str a) (.str b) s (wV H.length 1 (acc.map brow)) (i : Int) (H ++ [.arr (acc.map brow).flatten]) Q
  | [], i, s, a, b, acc, hd, hal, ha, hr => by
    refine L11_11_in (ACall.cle B table) ?_
    rw [hs.len, ob_some, List.length_map]
    refine bs_dec (fun h1 => ?_) fun h1 => ?_
    · have := drop_nil hd; omega
    · simp only [minesF, List.append_nil] at ha
      simp only [rngF] at hr
      rw [← hr, ← ha] at h
      exact h
  | t :: r, i, s, a, b, acc, hd, hal, ha, hr => by
    obtain ⟨hget, hlt, hd'⟩ := drop_cons hd
    have ht : t.Ok := hok t (List.mem_of_getElem? hget)
    have hs1 : ∀ {L : List AObj}, Sl B (H ++ L) 36 v (all.map Tab.row) := fun {L} => hs.pre
    have low : ∀ (g : Nat → Nat) (m : Nat), n ≤ m → RV (pick n g) m v v := fun g m hm => Low.rv (fun k hk => pick_low hk) hm v hv
    simp only [minesF] at ha
    simp only [rngF] at hr
    refine L11_11_in (ACall.cle B table) ?_
    rw [hs.len, ob_some, List.length_map]
    refine bs_dec (fun _ => J11_10_in ?_) fun h1 => absurd (by omega) h1
    refine tab_level hs1 hget ?_
    have app : J11_8 B (Cl B) n v lv (.str a) (.str b) s (wV H.length 1 (acc.map brow)) (i : Int) (.bool (mineB lv s t)) (H ++ [.arr (acc.map brow).flatten]) Q := by
      refine J11_8_in ?_
      rw [lay_one (c := brow (mineB lv s t)) rfl rfl, ob_some]
      have hsl : Sl B (H ++ [.arr (acc.map brow).flatten] ++ [.arr (brow (mineB lv s t))]) 1 (.slice (.new (H ++ [AObj.arr (acc.map brow).flatten]).length) 0 1 1 (some 1)) [brow (mineB lv s t)] :=
        ⟨fun r hr => by rw [List.mem_singleton.1 hr]; rfl, .inr ⟨_, _, _, rfl, cellsAt_iff'.2 ⟨brow (mineB lv s t), by simp only [cellsOf, get_app0]; rfl, by simp [brow], by simp [brow]⟩⟩⟩
      refine slK_in (op_appendE (k := H.length) (rows1 := acc.map brow) (by rw [List.append_assoc, get_app0]; rfl) (brows_len acc) hsl (by simp) (by simp [maxBytes]; omega) fun o => ?_)
      have e : acc.map brow ++ [brow (mineB lv s t)] = (acc ++ [mineB lv s t]).map brow := by simp
      rw [e]
      have e2 : (H ++ [AObj.arr (acc.map brow).flatten] ++ [AObj.arr (brow (mineB lv s t))]).set H.length o ++ [.arr ((acc ++ [mineB lv s t]).map brow).flatten] = H ++ [o, .arr (brow (mineB lv s t)), .arr ((acc ++ [mineB lv s t]).map brow).flatten] := by
        rw [List.append_assoc, set_app0]; simp
      have e3 : (H ++ [AObj.arr (acc.map brow).flatten] ++ [AObj.arr (brow (mineB lv s t))]).length = H.length + 2 := by simp
      rw [e2, e3]
      have go : ∀ s' a' b', acc ++ mineB lv s t :: minesF lv s' r = minesF lv false all → rngF lv s' a' b' r = rngF lv false [] [] all →
          J11_9 B (Cl B) n v lv (.str a') (.str b') s' (wV (H.length + 2) 1 ((acc ++ [mineB lv s t]).map brow)) (i : Int) (H ++ [o, .arr (brow (mineB lv s t)), .arr ((acc ++ [mineB lv s t]).map brow).flatten]) Q := fun s' a' b' ha' hr' => by
        refine J11_9_in ?_
        rw [w64 (n := (i : Int) + 1) (by omega)]
        refine L11_11_tidy (y0 := v) (y6 := .str a') (y7 := .str b') (y9 := wV H.length 1 ((acc ++ [mineB lv s t]).map brow)) (Cln.pick (L2 := [.arr ((acc ++ [mineB lv s t]).map brow).flatten]) hn hH (fun _ => 2) ?_ ?_) (low _ _ (by subst hn; simp)) rfl rfl ?_
          (f11_mark hn hH hv hs hok hsz h r (i + 1) s' a' b' (acc ++ [mineB lv s t]) hd' (by simp [hal]) (by simpa using ha') hr')
        · intro j k hj hk _; simp at hj hk; omega
        · intro j o2 hj
          cases j with
          | zero => simp only [List.getElem?_cons_zero, Option.some.injEq] at hj; subst hj; exact .inr ⟨rfl, brows_flat _⟩
          | succ j => simp at hj
        · refine wV_rv ?_ (by simp)
          rw [← hn, pick_at0]
      refine J11_7_in ?_
      rw [pBool_bool]
      refine bs_iff.2 ⟨fun hm => ?_, fun hm => ?_⟩
      · rw [if_pos hm] at hr
        simp only [hm, Bool.or_true] at ha go ⊢
        have fin : ∀ a' b', rngF lv true a' b' r = rngF lv false [] [] all → J11_4 B (Cl B) n v lv (.str a') (.str b') (wV (H.length + 2) 1 ((acc ++ [true]).map brow)) (i : Int) (H ++ [o, .arr (brow true), .arr ((acc ++ [true]).map brow).flatten]) Q := fun a' b' hr' => J11_4_in (go true a' b' ha hr')
        have last : ∀ a' c, rngF lv true a' (if c = true then t.last else b) r = rngF lv false [] [] all → J11_3 B (Cl B) n v lv (.str a') (.str b) (wV (H.length + 2) 1 ((acc ++ [true]).map brow)) (i : Int) (.bool c) (H ++ [o, .arr (brow true), .arr ((acc ++ [true]).map brow).flatten]) Q := fun a' c hr' => by
          refine J11_3_in ?_
          rw [pBool_bool]
          cases c
          · rw [if_neg (by simp)]; exact fin a' b (by simpa using hr')
          · rw [if_pos rfl]; exact tab_last ht hs1 hget (fin a' t.last (by simpa using hr'))
        have mid : ∀ a', rngF lv true a' (if (!s || gtr t.last b) = true then t.last else b) r = rngF lv false [] [] all → J11_5 B (Cl B) n v lv (.str a') (.str b) s (wV (H.length + 2) 1 ((acc ++ [true]).map brow)) (i : Int) (H ++ [o, .arr (brow true), .arr ((acc ++ [true]).map brow).flatten]) Q := fun a' hr' => by
          refine J11_5_in (bs_iff.2 ⟨fun h1 => ?_, fun h1 => ?_⟩)
          · subst h1
            refine tab_last ht hs1 hget ?_
            rw [pStr_str]
            show bs (gtr t.last b) _ _
            refine bs_iff.2 ⟨fun h2 => last a' true (by simpa [h2] using hr'), fun h2 => last a' false (by simpa [h2] using hr')⟩
          · subst h1
            exact last a' true (by simpa using hr')
        have first : ∀ c, c = (!s || sLess t.first a) → J11_2 B (Cl B) n v lv (.str a) (.str b) s (wV (H.length + 2) 1 ((acc ++ [true]).map brow)) (i : Int) (.bool c) (H ++ [o, .arr (brow true), .arr ((acc ++ [true]).map brow).flatten]) Q := fun c hc => by
          rw [← hc] at hr
          refine J11_2_in ?_
          rw [pBool_bool]
          cases c
          · rw [if_neg (by simp)]; exact mid a (by simpa using hr)
          · rw [if_pos rfl]; exact tab_first ht hs1 hget (mid t.first (by simpa using hr))
        refine J11_6_in (bs_iff.2 ⟨fun h1 => ?_, fun h1 => first true (by simp [h1])⟩)
        refine tab_first ht hs1 hget ?_
        rw [pStr_str]
        show bs (sLess t.first a) _ _
        exact bs_iff.2 ⟨fun h2 => first true (by simp [h2]), fun h2 => first false (by simp [h1, h2])⟩
      · rw [if_neg (by simp [hm])] at hr
        simp only [hm, Bool.or_false] at ha go ⊢
        exact go s a b ha hr
    refine bs_iff.2 ⟨fun h1 => ?_, fun h1 => ?_⟩
    · refine bs_iff.2 ⟨fun h2 => ?_, fun h2 => ?_⟩
      · have : mineB lv s t = true := by simp only [mineB, h1, h2]; rfl
        rw [this] at app; exact app
      · have : mineB lv s t = !s := by simp only [mineB, h1, h2]; simp
        rw [this] at app
        show bs s _ _
        cases s
        · exact app
        · exact app
    · have : mineB lv s t = false := by simp only [mineB, h1]; rfl
      rw [this] at app; exact app
end

end Go.Am

/- The document's Pick: its second loop, which lists what is merged. -/
namespace Go.Am
open Go

theorem irows_arr_flat (l : List Nat) : flatO (.arr (l.map irow).flatten) := by
  cases l with
  | nil => exact ⟨fun v hv => by simp at hv, rfl⟩
  | cons i r =>
    have := irows_flat (i :: r)
    simpa [growO] using this

/-- What is listed. -/
def outL (lv : Int) (a b : List UInt8) : Nat → List Bool → List Tab → List Nat
  | i, m :: ms, t :: r => if (m || overB (lv + 1) a b t) = true then i :: outL lv a b (i + 1) ms r else outL lv a b (i + 1) ms r
  | _, _, _ => []

section
variable {B : Base} {n : Nat} {H : Heap} {Q : AV → Heap → Prop} {v : AV} {all : List Tab}

theorem f11_list {lv : Int} {a b : List UInt8} {ms : List Bool} (hn : n = H.length) (hH : LowH n H) (hv : Low n v) (hs : Sl B H 36 v (all.map Tab.row)) (hok : ∀ t ∈ all, t.Ok) (hsz : all.length < 8796093022208) (hlv : 0 ≤ lv ∧ lv ≤ 2) (hml : ms.length = all.length)
    (h : Q (.tuple [wV H.length 1 ((outL lv a b 0 ms all).map irow), .int .i64 (lv + 1), .bool true]) (H ++ [.arr ((outL lv a b 0 ms all).map irow).flatten])) :
    ∀ (rest : List Tab) (mr : List Bool) (i : Nat) (acc : List Nat), all.drop i = rest → ms.drop i = mr → acc.length ≤ i → acc ++ outL lv a b i mr rest = outL lv a b 0 ms all →
      L11_15 B (Cl B) n v lv (.str a) (.str b) (wV H.length 1 (ms.map brow)) (wV (H.length + 1) 1 (acc.map irow)) (i : Int) (H ++ [.arr (ms.map brow).flatten, .arr (acc.map irow).flatten]) Q
  | [], mr, i, acc, hd, hm, hal, ha => by
    refine L11_15_in (ACall.cle B table) ?_
    rw [hs.len, ob_some, List.length_map]
    refine bs_dec (fun h1 => ?_) fun h1 => J11_16_in ?_
    · have := drop_nil hd; omega
    · have e : outL lv a b i mr [] = [] := by cases mr <;> rfl
      rw [e, List.append_nil] at ha
      rw [ha]
      refine .inr ⟨_, _, ⟨_, Cln.pick (L2 := [.arr ((outL lv a b 0 ms all).map irow).flatten]) hn hH (fun _ => 1) ?_ ?_, ?_⟩, h⟩
      · intro j k hj hk _; simp at hj hk; omega
      · intro j o2 hj
        cases j with
        | zero => simp only [List.getElem?_cons_zero, Option.some.injEq] at hj; subst hj; exact .inr ⟨rfl, irows_arr_flat _⟩
        | succ j => simp at hj
      · refine ⟨wV_rv ?_ (by simp), ?_, rfl, rfl⟩
        · rw [← hn, pick_at0]
        · rw [w64 (by omega)]; rfl
  | t :: r, [], i, acc, hd, hm, hal, ha => by
    obtain ⟨_, hlt, _⟩ := drop_cons hd
    have := drop_nil hm; omega
  | t :: r, m :: mr, i, acc, hd, hm, hal, ha => by
    obtain ⟨hget, hlt, hd'⟩ := drop_cons hd
    obtain ⟨hgm, hltm, hm'⟩ := drop_cons hm
    have ht : t.Ok := hok t (List.mem_of_getElem? hget)
    have hs1 : Sl B (H ++ [.arr (ms.map brow).flatten, .arr (acc.map irow).flatten]) 36 v (all.map Tab.row) := hs.pre
    have hms : Sl B (H ++ [.arr (ms.map brow).flatten, .arr (acc.map irow).flatten]) 1 (wV H.length 1 (ms.map brow)) (ms.map brow) := wV_sl (by rw [get_app0]; rfl) (brows_len ms)
    have low : ∀ (g : Nat → Nat) (k : Nat), n ≤ k → RV (pick n g) k v v := fun g k hk => Low.rv (fun k hk => pick_low hk) hk v hv
    simp only [outL] at ha
    refine L11_15_in (ACall.cle B table) ?_
    rw [hs.len, ob_some, List.length_map]
    refine bs_dec (fun _ => J11_14_in ?_) fun h1 => absurd (by omega) h1
    have app : ∀ c, c = (m || overB (lv + 1) a b t) → J11_12 B (Cl B) n v lv (.str a) (.str b) (wV H.length 1 (ms.map brow)) (wV (H.length + 1) 1 (acc.map irow)) (i : Int) (.bool c) (H ++ [.arr (ms.map brow).flatten, .arr (acc.map irow).flatten]) Q := fun c hc => by
      rw [← hc] at ha
      refine J11_12_in ?_
      rw [pBool_bool]
      cases c
      · rw [if_neg (by simp)] at ha ⊢
        refine J11_13_in ?_
        rw [w64 (n := (i : Int) + 1) (by omega)]
        exact f11_list hn hH hv hs hok hsz hlv hml h r mr (i + 1) acc hd' hm' (by omega) ha
      · rw [if_pos rfl] at ha ⊢
        rw [lay_one (c := irow i) rfl rfl, ob_some]
        have hsl : Sl B (H ++ [.arr (ms.map brow).flatten, .arr (acc.map irow).flatten] ++ [.arr (irow i)]) 1 (.slice (.new (H ++ [AObj.arr (ms.map brow).flatten, .arr (acc.map irow).flatten]).length) 0 1 1 (some 1)) [irow i] :=
          ⟨fun r hr => by rw [List.mem_singleton.1 hr]; rfl, .inr ⟨_, _, _, rfl, cellsAt_iff'.2 ⟨irow i, by simp only [cellsOf, get_app0]; rfl, by simp [irow], by simp [irow]⟩⟩⟩
        refine slK_in (op_appendE (k := H.length + 1) (rows1 := acc.map irow) (by rw [List.append_assoc, get_app]; rfl) (irows_len acc) hsl (by simp) (by simp [maxBytes]; omega) fun o => ?_)
        have e : acc.map irow ++ [irow i] = (acc ++ [i]).map irow := by simp
        rw [e]
        have e2 : (H ++ [AObj.arr (ms.map brow).flatten, .arr (acc.map irow).flatten] ++ [AObj.arr (irow i)]).set (H.length + 1) o ++ [.arr ((acc ++ [i]).map irow).flatten] = H ++ [.arr (ms.map brow).flatten, o, .arr (irow i), .arr ((acc ++ [i]).map irow).flatten] := by
          rw [List.append_assoc, set_app]; simp
        have e3 : (H ++ [AObj.arr (ms.map brow).flatten, .arr (acc.map irow).flatten] ++ [AObj.arr (irow i)]).length = H.length + 3 := by simp
        rw [e2, e3]
        refine J11_13_in ?_
        rw [w64 (n := (i : Int) + 1) (by omega)]
        refine L11_15_tidy (y0 := v) (y6 := .str a) (y7 := .str b) (y9 := wV H.length 1 (ms.map brow)) (y12 := wV (H.length + 1) 1 ((acc ++ [i]).map irow)) (Cln.pick (L2 := [.arr (ms.map brow).flatten, .arr ((acc ++ [i]).map irow).flatten]) hn hH (fun j => j * 3) (fun _ _ _ _ e => by omega) ?_) (low _ _ (by subst hn; simp)) rfl rfl ?_ ?_
          (f11_list hn hH hv hs hok hsz hlv hml h r mr (i + 1) (acc ++ [i]) hd' hm' (by simp; omega) (by simpa using ha))
        · intro j o2 hj
          cases j with
          | zero => simp only [List.getElem?_cons_zero, Option.some.injEq] at hj; subst hj; exact .inr ⟨rfl, brows_flat _⟩
          | succ j =>
            cases j with
            | zero => simp only [List.getElem?_cons_succ, List.getElem?_cons_zero, Option.some.injEq] at hj; subst hj; exact .inr ⟨rfl, irows_arr_flat _⟩
            | succ j => simp at hj
        · refine wV_rv ?_ (by simp)
          rw [← hn, pick_at0]; rfl
        · refine wV_rv ?_ (by simp)
          rw [← hn, pick_at]
    refine op_idx hms (by simpa using hltm) ?_
    rw [(hms.el (row := brow m) (i := i) (by simp [hgm])).peek0 (v := .bool m) rfl, ob_some, pBool_bool]
    refine bs_iff.2 ⟨fun h1 => app true (by simp [h1]), fun h1 => ?_⟩
    refine tab_level hs1 hget ?_
    rw [w64 (n := lv + 1) (by omega)]
    refine bs_iff.2 ⟨fun h2 => ?_, fun h2 => app false (by simp [h1, overB, h2])⟩
    refine tab_first ht hs1 hget ?_
    rw [pStr_str]
    refine bs_iff.2 ⟨fun h3 => ?_, fun h3 => app false (by simp only [h1, overB, h2, h3]; rfl)⟩
    refine tab_last ht hs1 hget ?_
    rw [pStr_str]
    show bs (!(sLess t.last a)) _ _
    exact bs_iff.2 ⟨fun h4 => app true (by simp only [h1, overB, h2, h3, h4]; rfl), fun h4 => app false (by simp only [h1, overB, h2, h3, h4]; rfl)⟩
end

end Go.Am

/- The document's Pick: put together. -/
namespace Go.Am
open Go

theorem ofF_idxs (lv : Int) : ∀ (l : List Tab) (k : Nat), (idxsFrom (onB lv) k l).length = ofF lv l
  | [], _ => rfl
  | t :: r, k => by
    have ih := ofF_idxs lv r (k + 1)
    simp only [idxsFrom, ofF]
    by_cases h : t.level = lv
    · have : onB lv t = true := by simp [onB, h]
      rw [if_pos this, if_pos h, List.length_cons]
      omega
    · have : ¬ onB lv t = true := by simp [onB, h]
      rw [if_neg this, if_neg h]
      omega
theorem minesF_len (lv : Int) : ∀ (l : List Tab) (s : Bool), (minesF lv s l).length = l.length
  | [], _ => rfl
  | t :: r, s => by simp only [minesF, List.length_cons, minesF_len lv r]

/-- Which are merged, of a level, by the document. -/
def refAt (all : List Tab) (lv : Nat) : List Nat := outL (lv : Int) (rngF (lv : Int) false [] [] all).1 (rngF (lv : Int) false [] [] all).2 0 (minesF (lv : Int) false all) all

section
variable {B : Base} {n : Nat} {H : Heap} {Q : AV → Heap → Prop} {v : AV} {all : List Tab}

theorem f11_found {lv : Nat} (hn : n = H.length) (hH : LowH n H) (hv : Low n v) (hs : Sl B H 36 v (all.map Tab.row)) (hok : ∀ t ∈ all, t.Ok) (hsz : all.length < 8796093022208) (hlv : lv ≤ 2)
    (h : Q (.tuple [wV H.length 1 ((refAt all lv).map irow), .int .i64 ((lv : Int) + 1), .bool true]) (H ++ [.arr ((refAt all lv).map irow).flatten])) : J11_22 B (Cl B) n v (lv : Int) H Q := by
  refine J11_22_in (J11_21_in (J11_20_in (J11_19_in ?_)))
  rw [show layParts [] [] = some [] from rfl, ob_some]
  refine slK_in (J11_18_in ?_)
  refine f11_mark hn hH hv hs hok hsz (J11_17_in ?_) all 0 false [] [] [] rfl rfl rfl rfl
  rw [show layParts [] [] = some [] from rfl, ob_some]
  refine slK_in ?_
  have e : (H ++ [AObj.arr ((minesF (lv : Int) false all).map brow).flatten]).length = H.length + 1 := by simp
  rw [e, List.append_assoc]
  exact f11_list hn hH hv hs hok hsz ⟨by omega, by omega⟩ (minesF_len _ _ _) h all _ 0 [] rfl rfl (Nat.le_refl _) rfl

theorem f11_levels (hn : n = H.length) (hH : LowH n H) (hv : Low n v) (hs : Sl B H 36 v (all.map Tab.row)) (hok : ∀ t ∈ all, t.Ok) (hsz : all.length < 8796093022208)
    (h0 : pickL all [0, 1, 2] = none → Q (.tuple [.nils, .int .i64 0, .bool false]) H)
    (h1 : ∀ lv l, lv ≤ 2 → pickL all [0, 1, 2] = some (lv, l) → many all lv = true → Q (.tuple [wV H.length 1 ((refAt all lv).map irow), .int .i64 ((lv : Int) + 1), .bool true]) (H ++ [.arr ((refAt all lv).map irow).flatten])) :
    ∀ (k lv : Nat), lv + k = 3 → pickL all ([0, 1, 2].drop lv) = pickL all [0, 1, 2] → L11_1 B (Cl B) n v (lv : Int) H Q
  | 0, lv, hk, hp => by
    have : lv = 3 := by omega
    subst this
    refine L11_1_in (ACall.cle B table) (bs_iff.2 ⟨fun h => by simp at h, fun _ => J11_23_in ?_⟩)
    exact bs_yes (by decide) (tidy_none (h0 hp.symm))
  | k + 1, lv, hk, hp => by
    have hlv : lv ≤ 2 := by omega
    have hd : [0, 1, 2].drop lv = lv :: [0, 1, 2].drop (lv + 1) := by
      have : lv = 0 ∨ lv = 1 ∨ lv = 2 := by omega
      rcases this with rfl | rfl | rfl <;> rfl
    rw [hd] at hp
    refine L11_1_in (ACall.cle B table) (bs_dec (fun _ => ?_) fun h => absurd (by omega) h)
    refine f17_ok hs (by omega) ?_
    rw [pInt_int]
    refine f15_ok ?_
    rw [pInt_int, ← ofF_idxs (lv : Int) all 0]
    refine bs_iff.2 ⟨fun hc => ?_, fun hc => ?_⟩
    · have hm : many all lv = false := by simp only [many, hc]; rfl
      refine J11_0_in ?_
      rw [w64 (n := (lv : Int) + 1) (by omega)]
      refine f11_levels hn hH hv hs hok hsz h0 h1 k (lv + 1) (by omega) ?_
      rw [← hp]; simp only [pickL, hm]; rfl
    · have hm : many all lv = true := by simp only [many, hc]; rfl
      refine J11_23_in (bs_iff.2 ⟨fun h => by simp at h; omega, fun _ => ?_⟩)
      exact f11_found hn hH hv hs hok hsz hlv (h1 lv (pickAt all lv) hlv (by rw [← hp]; simp only [pickL, hm, if_true]) hm)
end

/-- The document's Pick. -/
theorem f11_ok {B : Base} {H : Heap} {Q : AV → Heap → Prop} {v : AV} {all : List Tab} (hs : Sl B H 36 v (all.map Tab.row)) (hok : ∀ t ∈ all, t.Ok) (hsz : all.length < 8796093022208)
    (h0 : pickL all [0, 1, 2] = none → Q (.tuple [.nils, .int .i64 0, .bool false]) H)
    (h1 : ∀ lv l, lv ≤ 2 → pickL all [0, 1, 2] = some (lv, l) → many all lv = true → Q (.tuple [wV H.length 1 ((refAt all lv).map irow), .int .i64 ((lv : Int) + 1), .bool true]) (H ++ [.arr ((refAt all lv).map irow).flatten])) : Cl B 11 [v] H Q := by
  refine f11_in fun n cl hn hcl hH hA => J11_25_in (J11_24_in ?_)
  subst hcl
  exact f11_levels hn hH hA.1 hs hok hsz h0 h1 3 0 rfl rfl

end Go.Am

/- What the document lists is what Pick lists. -/
namespace Go.Am
open Go

theorem mem_idxs_of {p : Tab → Bool} {t : Tab} (h2 : p t = true) : ∀ (l : List Tab) (k i : Nat), l[i - k]? = some t → k ≤ i → i ∈ idxsFrom p k l
  | [], k, i, h1, _ => by simp at h1
  | u :: r, k, i, h1, h3 => by
    simp only [idxsFrom]
    rcases Nat.eq_or_lt_of_le h3 with e | hlt
    · subst e
      simp at h1; subst h1
      rw [if_pos h2]; simp
    · have e : i - k = (i - (k + 1)) + 1 := by omega
      rw [e] at h1
      have := mem_idxs_of h2 r (k + 1) i (by simpa using h1) hlt
      split
      · exact List.mem_cons_of_mem _ this
      · exact this
theorem mem_idxs {p : Tab → Bool} {l : List Tab} {k i : Nat} : i ∈ idxsFrom p k l ↔ ∃ t, l[i - k]? = some t ∧ p t = true ∧ k ≤ i :=
  ⟨idxs_mem, fun ⟨_, h1, h2, h3⟩ => mem_idxs_of h2 l k i h1 h3⟩

/-- What is listed is a choice of the places. -/
theorem outL_filter {lv : Int} {a b : List UInt8} : ∀ (l : List Tab) (ms : List Bool) (k : Nat) (P : Nat → Bool), ms.length = l.length →
    (∀ i m t, ms[i]? = some m → l[i]? = some t → P (k + i) = (m || overB (lv + 1) a b t)) → outL lv a b k ms l = (List.range' k l.length).filter P
  | [], ms, k, P, hl, _ => by cases ms <;> rfl
  | t :: r, [], k, P, hl, _ => by simp at hl
  | t :: r, m :: ms, k, P, hl, h => by
    have h0 := h 0 m t rfl rfl
    have ih := outL_filter (lv := lv) (a := a) (b := b) r ms (k + 1) P (by simpa using hl) fun i m' t' h1 h2 => by
      have := h (i + 1) m' t' (by simpa using h1) (by simpa using h2)
      rw [← this]; congr 1; omega
    simp only [Nat.add_zero] at h0
    simp only [outL, List.length_cons, List.range'_succ, List.filter_cons, h0, ih]


/-- The marks: for the level 0 all of it, for another one the first. -/
theorem mines_zero : ∀ (l : List Tab) (s : Bool), minesF 0 s l = l.map (onB 0)
  | [], _ => rfl
  | t :: r, s => by simp only [minesF, List.map_cons, mines_zero r, mineB, onB]; simp
theorem mines_after {lv : Int} (h0 : lv ≠ 0) : ∀ (l : List Tab), minesF lv true l = l.map fun _ => false
  | [] => rfl
  | t :: r => by
    have hm : mineB lv true t = false := by simp [mineB, h0]
    simp only [minesF, hm, List.map_cons, Bool.or_false, mines_after h0 r]
theorem rng_after {lv : Int} (h0 : lv ≠ 0) : ∀ (l : List Tab) (a b : List UInt8), rngF lv true a b l = (a, b)
  | [], _, _ => rfl
  | t :: r, a, b => by
    have hm : mineB lv true t = false := by simp [mineB, h0]
    simp only [rngF, hm]; simp only [Bool.false_eq_true, if_false]; exact rng_after h0 r a b
/-- For another level: the first one is its own, and its range is the range. -/
theorem mines_first {lv : Int} (h0 : lv ≠ 0) : ∀ (l : List Tab) (k : Nat), match idxsFrom (onB lv) k l with
    | [] => True
    | i0 :: _ => ∃ t0, l[i0 - k]? = some t0 ∧ k ≤ i0 ∧ rngF lv false [] [] l = (t0.first, t0.last) ∧ ∀ i, (minesF lv false l)[i]? = (l[i]?).map fun _ => decide (k + i = i0)
  | [], k => trivial
  | t :: r, k => by
    have ih := mines_first h0 r (k + 1)
    simp only [idxsFrom]
    by_cases h : onB lv t = true
    · rw [if_pos h]
      have hm : mineB lv false t = true := by
        simp only [onB] at h; simp [mineB, h]
      refine ⟨t, by simp, Nat.le_refl _, ?_, fun i => ?_⟩
      · simp only [rngF, hm, if_true]; simp only [Bool.not_false, Bool.true_or, if_true]; exact rng_after h0 r _ _
      · simp only [minesF, hm, Bool.false_or, mines_after h0 r]
        cases i with
        | zero => simp
        | succ i => simp
    · rw [if_neg h]
      have hm : mineB lv false t = false := by
        simp only [onB] at h; simp [mineB, h]
      split at ih
      · trivial
      · rename_i i0 rr e
        obtain ⟨t0, h1, h2, h3, h4⟩ := ih
        refine ⟨t0, ?_, by omega, ?_, fun i => ?_⟩
        · have : i0 - k = (i0 - (k + 1)) + 1 := by omega
          rw [this]; simpa using h1
        · simp only [rngF, hm]; simpa using h3
        · simp only [minesF, hm, Bool.or_false]
          cases i with
          | zero => simp; omega
          | succ i =>
            have := h4 i
            simp only [List.getElem?_cons_succ]
            rw [this]; congr 1; funext _; congr 1; simp; omega

end Go.Am

/- What the document lists is what Pick lists: put together. -/
namespace Go.Am
open Go

theorem rng_zero {all : List Tab} : ∀ (l : List Tab) (k : Nat) (a b : List UInt8), all.drop k = l → rngF 0 true a b l = rangeF all (idxsFrom (onB 0) k l) a b
  | [], _, _, _, _ => rfl
  | t :: r, k, a, b, hd => by
    obtain ⟨hget, _, hd'⟩ := drop_cons hd
    have ih := fun a b => rng_zero (all := all) r (k + 1) a b hd'
    have hmo : mineB 0 true t = onB 0 t := by simp [mineB, onB]
    simp only [rngF, idxsFrom, hmo]
    by_cases h : onB 0 t = true
    · rw [if_pos h, if_pos h]
      simp only [rangeF, hget, Bool.not_true, Bool.false_or, min_if, max_if]
      exact ih _ _
    · rw [if_neg h, if_neg h]; exact ih _ _

theorem rng_zero_first {all : List Tab} : ∀ (l : List Tab) (k : Nat), all.drop k = l → ∀ i0 rest, idxsFrom (onB 0) k l = i0 :: rest → ∃ t0, all[i0]? = some t0 ∧ rngF 0 false [] [] l = rangeF all (i0 :: rest) t0.first t0.last
  | [], _, _, _, _, h => by simp [idxsFrom] at h
  | t :: r, k, hd, i0, rest, h => by
    obtain ⟨hget, _, hd'⟩ := drop_cons hd
    have hmo : mineB 0 false t = onB 0 t := by simp [mineB, onB]
    simp only [idxsFrom] at h
    by_cases ho : onB 0 t = true
    · rw [if_pos ho] at h
      simp only [List.cons.injEq] at h
      obtain ⟨rfl, rfl⟩ := h
      refine ⟨t, hget, ?_⟩
      simp only [rngF, hmo, ho, if_true, Bool.not_false, Bool.true_or, rangeF, hget, min_same, max_same]
      exact rng_zero r (k + 1) _ _ hd'
    · rw [if_neg ho] at h
      obtain ⟨t0, h1, h2⟩ := rng_zero_first r (k + 1) hd' i0 rest h
      refine ⟨t0, h1, ?_⟩
      simp only [rngF, hmo]; rw [if_neg ho]; exact h2

theorem many_some {all : List Tab} {lv : Nat} (hlv : lv ≤ 2) (h : many all lv = true) : ∃ i0 r, idxsFrom (onB (lv : Int)) 0 all = i0 :: r := by
  cases e : idxsFrom (onB (lv : Int)) 0 all with
  | cons i r => exact ⟨i, r, rfl⟩
  | nil =>
    simp only [many, e] at h
    have : lv = 0 ∨ lv = 1 ∨ lv = 2 := by omega
    rcases this with rfl | rfl | rfl <;> exact absurd h (by decide)

/-- They list the same. -/
theorem ref_eq {all : List Tab} {lv : Nat} (hlv : lv ≤ 2) (h : many all lv = true) : refAt all lv = pickAt all lv := by
  obtain ⟨i0, r, he⟩ := many_some hlv h
  have hlen := minesF_len (lv : Int) all false
  have hr : List.range all.length = List.range' 0 all.length := List.range_eq_range'
  by_cases h0 : lv = 0
  · subst h0
    have he' : idxsFrom (onB 0) 0 all = i0 :: r := he
    obtain ⟨t0, h1, h2⟩ := rng_zero_first all 0 rfl i0 r he'
    have hown : ownF all 0 = i0 :: r := by unfold ownF; rw [if_pos rfl]; exact he
    simp only [refAt, pickAt, hown, h1, overF]
    rw [hr]
    refine outL_filter all _ 0 _ hlen fun i m t hm ht => ?_
    simp only [Nat.zero_add]
    have hz : minesF ((0 : Nat) : Int) false all = all.map (onB 0) := mines_zero all false
    rw [hz] at hm
    simp only [List.getElem?_map, ht, Option.map_some, Option.some.injEq] at hm
    subst hm
    have e2 : rngF ((0 : Nat) : Int) false [] [] all = rangeF all (i0 :: r) t0.first t0.last := h2
    rw [e2]
    have hmo : i ∈ i0 :: r ↔ onB 0 t = true := by
      rw [← he', mem_idxs]
      constructor
      · rintro ⟨u, hu, hp, _⟩; rw [Nat.sub_zero, ht] at hu; cases hu; exact hp
      · intro hp; exact ⟨t, by simpa using ht, hp, Nat.zero_le _⟩
    have hov : ∀ p : Tab → Bool, i ∈ idxsFrom p 0 all ↔ p t = true := fun p => by
      rw [mem_idxs]
      constructor
      · rintro ⟨u, hu, hp, _⟩; rw [Nat.sub_zero, ht] at hu; cases hu; exact hp
      · intro hp; exact ⟨t, by simpa using ht, hp, Nat.zero_le _⟩
    rw [Bool.eq_iff_iff]
    simp only [decide_eq_true_eq, List.mem_append, Bool.or_eq_true, hmo, hov]
  · have hi0 : (lv : Int) ≠ 0 := by omega
    have hf := mines_first hi0 all 0
    rw [he] at hf
    obtain ⟨t0, h1, _, h3, h4⟩ := hf
    have hown : ownF all lv = [i0] := by unfold ownF; rw [if_neg h0, he]; rfl
    have h1' : all[i0]? = some t0 := by simpa using h1
    simp only [refAt, pickAt, hown, h1', overF]
    rw [hr]
    refine outL_filter all _ 0 _ hlen fun i m t hm ht => ?_
    simp only [Nat.zero_add]
    rw [h4 i, ht] at hm
    simp only [Option.map_some, Option.some.injEq, Nat.zero_add] at hm
    subst hm
    have hrg : rangeF all [i0] t0.first t0.last = (t0.first, t0.last) := by simp only [rangeF, h1', min_same, max_same]
    rw [h3, hrg]
    have hov : ∀ p : Tab → Bool, i ∈ idxsFrom p 0 all ↔ p t = true := fun p => by
      rw [mem_idxs]
      constructor
      · rintro ⟨u, hu, hp, _⟩; rw [Nat.sub_zero, ht] at hu; cases hu; exact hp
      · intro hp; exact ⟨t, by simpa using ht, hp, Nat.zero_le _⟩
    rw [Bool.eq_iff_iff]
    simp only [decide_eq_true_eq, List.mem_append, List.mem_singleton, Bool.or_eq_true, hov]

end Go.Am

/- Helpers for the laws: beginnings of slices, rows compared. -/
namespace Go.Am
open Go

/-- A beginning of a slice. -/
theorem op_prefix {B : Base} {H : Heap} {K : AV → Heap → Prop} {es : Nat} {v : AV} {rows : List (List AV)} {k : Nat} {a : Int} (hs : Sl B H es v rows) (hk : a = (k : Int)) (hle : k ≤ rows.length)
    (h : ∀ v', Sl B H es v' (rows.take k) → (∀ n, Low n v → Low n v') → K v' H) : aop B E0 H K (.sliceL es (.const v) none (some (.const (.int .i64 a))) none) := by
  subst hk
  obtain ⟨hl, ⟨rfl, rfl⟩ | ⟨o, off, cap, rfl, hc⟩⟩ := hs
  · have : k = 0 := by simpa using hle
    subst this
    exact h .nils ⟨fun r hr => by simp at hr, .inl ⟨rfl, rfl⟩⟩ fun n hn => hn
  · have hc' := cellsAt_sub hc (j := 0) (m := k * es) (by
      have := Nat.mul_le_mul_right es hle; omega)
    have hfl : (rows.take k).flatten = rows.flatten.take (k * es) := by
      have h1 : rows.flatten = (rows.take k).flatten ++ (rows.drop k).flatten := by rw [← List.flatten_append, List.take_append_drop]
      have h2 : (rows.take k).flatten.length = k * es := by
        rw [flatten_len (fun r hr => hl r (List.mem_of_mem_take hr)), List.length_take]; congr 1; omega
      rw [h1, ← h2, List.take_left']
      rfl
    have hlt : (rows.take k).length = k := by rw [List.length_take]; omega
    have key : ∀ cap', Sl B H es (.slice o off k es cap') (rows.take k) := fun cap' => ⟨fun r hr => hl r (List.mem_of_mem_take hr), .inr ⟨o, off, cap', by rw [hlt], by rw [hlt, hfl]; simpa using hc'⟩⟩
    have low : ∀ cap' n, Low n (.slice o off rows.length es cap) → Low n (.slice o off k es cap') := fun cap' n hn => by
      simp only [Low, RV] at hn ⊢
      exact ⟨hn.1, by simp [Id.ren_id]⟩
    simp only [aop, opK, Opd.look, ob_some, lenOf, optK, pAny_int, sliceOf]
    rw [if_pos ⟨trivial, by omega, by omega, by omega⟩, ob_some]
    cases cap with
    | none => exact h _ (by simpa using key none) fun n hn => by simpa using low none n hn
    | some c =>
      have e : (if c = 0 then off else off + 0 * es) = off := by split <;> simp
      show K (.slice o (if c = 0 then off else off + 0 * es) (k - 0) es (some (c - 0))) H
      rw [e]
      exact h _ (by simpa using key (some c)) fun n hn => by simpa using low (some c) n hn

end Go.Am

/- Helpers for the laws: a row is the same as itself. -/
namespace Go.Am
open Go

theorem cellsEq_same {xs : List AV} : ∀ {ps : List (Nat × Ty)}, (∀ p, p ∈ ps → ∃ x, xs[p.1]? = some x ∧ cellEq p.2 x x = some true) → cellsEq ps xs xs = some true
  | [], _ => rfl
  | (i, t) :: r, h => by
    obtain ⟨x, h1, h2⟩ := h (i, t) (List.mem_cons_self ..)
    simp only [cellsEq]
    rw [h1]
    simp only [h2]
    exact cellsEq_same fun p hp => h p (List.mem_cons_of_mem _ hp)

def partsT : List (Nat × Ty) := (0, .int .i64) :: (1, .int .i64) :: (((List.range 32).map fun i => (i + 2, Ty.int .u8)) ++ [(34, .str), (35, .str)])

theorem tab_same {t : Tab} (ht : t.Ok) (hu : t.U8) : cellsEq partsT t.row t.row = some true := by
  refine cellsEq_same fun p hp => ?_
  simp only [partsT, List.mem_cons, List.mem_append, List.mem_map, List.mem_range, List.not_mem_nil, or_false] at hp
  rcases hp with rfl | rfl | ⟨i, hi, rfl⟩ | rfl | rfl
  · exact ⟨_, rfl, by simp [cellEq]⟩
  · exact ⟨_, rfl, by simp [cellEq]⟩
  · have hlt : i < t.dig.length := by rw [ht.dig]; exact hi
    obtain ⟨n, hn⟩ := hu t.dig[i] (List.getElem_mem hlt)
    refine ⟨.int .u8 n, ?_, by simp [cellEq]⟩
    show (t.dig ++ [.str t.first, .str t.last])[i]? = _
    rw [List.getElem?_append_left hlt, List.getElem?_eq_getElem hlt, hn]
  · exact ⟨_, ht.r34, by simp [cellEq]⟩
  · exact ⟨_, ht.r35, by simp [cellEq]⟩

theorem op_aeq_same {B : Base} {H : Heap} {K : AV → Heap → Prop} {t : Tab} (ht : t.Ok) (hu : t.U8) {ps : List (Nat × Ty)} (hps : ps = partsT) (h : K (.bool false) H) : aop B E0 H K (.aeq true 36 ps (.const (.agg t.row)) (.const (.agg t.row))) := by
  subst hps
  simp only [aop, opK, Opd.look, ob_some, ht.len, tab_same ht hu, and_self, if_true]
  exact h

end Go.Am

/- The law PickPicks: its two loops that compare. -/
namespace Go.Am
open Go

section
variable {B : Base} {n : Nat} {G : Heap} {Q : AV → Heap → Prop} {v vo : AV} {all : List Tab}

/-- What was handed in stays. -/
theorem f3_same (hs : Sl B G 36 v (all.map Tab.row)) (ho : Sl B G 36 vo (all.map Tab.row)) (hok : ∀ t ∈ all, t.Ok) (hu : ∀ t ∈ all, t.U8) (hsz : all.length < 8796093022208) (h : tidyK n Q (.bool true) G) :
    ∀ (rest : List Tab) (i : Nat), all.drop i = rest → L3_6 B (Cl B) n v (.bool true) vo (i : Int) G Q
  | [], i, hd => by
    refine L3_6_in (ACall.cle B table) ?_
    rw [hs.len, ob_some, List.length_map]
    exact bs_dec (fun h1 => absurd (drop_nil hd) (by omega)) fun _ => J3_7_in h
  | t :: r, i, hd => by
    obtain ⟨hget, hlt, hd'⟩ := drop_cons hd
    have ht : t.Ok := hok t (List.mem_of_getElem? hget)
    have hu' : t.U8 := hu t (List.mem_of_getElem? hget)
    refine L3_6_in (ACall.cle B table) ?_
    rw [hs.len, ob_some, List.length_map]
    refine bs_dec (fun _ => J3_5_in ?_) fun h1 => absurd (by omega) h1
    refine op_idx ho (tab_lt hget) ?_
    rw [(tab_row ho hget).peekN ht.len, ob_some]
    refine op_idx hs (tab_lt hget) ?_
    rw [(tab_row hs hget).peekN ht.len, ob_some]
    refine op_aeq_same ht hu' rfl ?_
    rw [pBool_bool, if_neg (by simp)]
    refine J3_4_in ?_
    rw [w64 (n := (i : Int) + 1) (by omega)]
    exact f3_same hs ho hok hu hsz h r (i + 1) hd'

/-- The lists are one. -/
theorem f3_lists {x7 x10 : AV} {l : List Nat} (h7 : Sl B G 1 x7 (l.map irow)) (h10 : Sl B G 1 x10 (l.map irow)) (hsz : l.length < 4611686018427387904) (h : J3_8 B (Cl B) n v (.bool true) vo G Q) :
    ∀ (rest : List Nat) (i : Nat), l.drop i = rest → L3_3 B (Cl B) n v (.bool true) vo x7 x10 (i : Int) G Q
  | [], i, hd => by
    refine L3_3_in (ACall.cle B table) ?_
    rw [h7.len, ob_some, List.length_map]
    exact bs_dec (fun h1 => absurd (drop_nil hd) (by omega)) fun _ => h
  | k :: r, i, hd => by
    obtain ⟨hget, hlt, hd'⟩ := drop_cons hd
    have hrow : (l.map irow)[i]? = some (irow k) := by simp [hget]
    refine L3_3_in (ACall.cle B table) ?_
    rw [h7.len, ob_some, List.length_map]
    refine bs_dec (fun _ => J3_2_in ?_) fun h1 => absurd (by omega) h1
    refine op_idx h7 (by simpa using hlt) ?_
    rw [(h7.el hrow).peek0 (v := .int .i64 (k : Int)) rfl, ob_some, pInt_int]
    refine op_idx h10 (by simpa using hlt) ?_
    rw [(h10.el hrow).peek0 (v := .int .i64 (k : Int)) rfl, ob_some, pInt_int]
    show bs ((k : Int) != k) _ _
    refine bs_iff.2 ⟨fun h1 => by simp at h1, fun _ => ?_⟩
    show J3_1 B (Cl B) n v (.bool true) vo x7 x10 (i : Int) G Q
    refine J3_1_in ?_
    rw [w64 (n := (i : Int) + 1) (by omega)]
    exact f3_lists h7 h10 hsz h r (i + 1) hd'
end

end Go.Am

/- The law PickPicks: its checks. -/
namespace Go.Am
open Go

section
variable {B : Base} {n : Nat} {G : Heap} {Q : AV → Heap → Prop} {v vo : AV} {all : List Tab}

theorem bs_no {b : Bool} {x y : Prop} (h : b = false) (hy : y) : bs b x y := by subst h; exact hy

theorem f3_check {x1 i : Int} {b : Bool} {x7 x10 : AV} {l : List Nat} (hs : Sl B G 36 v (all.map Tab.row)) (ho : Sl B G 36 vo (all.map Tab.row)) (hok : ∀ t ∈ all, t.Ok) (hu : ∀ t ∈ all, t.U8) (hsz : all.length < 8796093022208)
    (h7 : Sl B G 1 x7 (l.map irow)) (h10 : Sl B G 1 x10 (l.map irow)) (hl : l.length < 4611686018427387904) (h : tidyK n Q (.bool true) G) :
    J3_9 B (Cl B) n v x1 (.bool true) vo x7 (.int .i64 i) (.bool b) x10 (.int .i64 i) (.bool b) G Q := by
  refine J3_9_in ?_
  rw [pInt_int, pInt_int]
  refine bs_no (by simp) ?_
  show bs (!(b == b)) _ _
  refine bs_no (by simp) ?_
  show ob (lenOf x7) _
  rw [h7.len, ob_some, h10.len, ob_some]
  refine bs_no (by simp) ?_
  refine f12_ok ho hok (by omega) ?_
  rw [pInt_int]
  refine f13_ok hs (by omega) ?_
  rw [pInt_int, score_eq all 0 (by omega)]
  refine bs_no (by simp) ?_
  refine f14_ok ?_
  rw [pInt_int]
  refine f15_ok ?_
  rw [pInt_int]
  show bs (cap x1 != cap x1) _ _
  refine bs_no (by simp) ?_
  refine J3_0_in ?_
  rw [pBool_bool, if_neg (by simp)]
  refine f3_lists h7 h10 hl (J3_8_in ?_) l 0 rfl
  exact f3_same hs ho hok hu hsz h all 0 rfl
end

end Go.Am

/- The law PickPicks: from the picks on. -/
namespace Go.Am
open Go

theorem pickL_at {all : List Tab} : ∀ {ls : List Nat} {lv : Nat} {l : List Nat}, pickL all ls = some (lv, l) → l = pickAt all lv
  | [], _, _, h => by simp [pickL] at h
  | k :: r, lv, l, h => by
    simp only [pickL] at h
    split at h
    · cases h; rfl
    · exact pickL_at h
theorem pickAt_len (all : List Tab) (lv : Nat) : (pickAt all lv).length ≤ all.length := by
  unfold pickAt
  split
  · simp
  · split
    · simp
    · refine Nat.le_trans (List.length_filter_le _ _) ?_
      simp
theorem wV_live (k es : Nat) (rows : List (List AV)) (K : AV → Prop) (h : K (wV k es rows)) : pLive (wV k es rows) K := by
  rw [pLive_iff]; exact ⟨by unfold wV; split <;> simp, h⟩
theorem nils_sl {B : Base} {G : Heap} : Sl B G 1 .nils (([] : List Nat).map irow) := ⟨fun r hr => by simp at hr, .inl ⟨rfl, rfl⟩⟩

section
variable {B : Base} {n : Nat} {G : Heap} {Q : AV → Heap → Prop} {v vo : AV} {all : List Tab}

theorem f3_rest {x1 : Int} (hs : Sl B G 36 v (all.map Tab.row)) (ho : Sl B G 36 vo (all.map Tab.row)) (hok : ∀ t ∈ all, t.Ok) (hu : ∀ t ∈ all, t.U8) (hsz : all.length < 8796093022208)
    (h : ∀ L, tidyK n Q (.bool true) (G ++ L)) : J3_11 B (Cl B) n v x1 (.bool true) vo G Q := by
  have hG : tidyK n Q (.bool true) G := by simpa using h []
  refine J3_11_in (f10_ok ho hok hsz (fun hp => ?_) fun lv l hp => ?_)
  · refine op_ext3 live_nils (J3_10_in (f11_ok hs hok hsz (fun _ => ?_) fun lv l _ hp2 _ => ?_))
    · refine op_ext3 live_nils ?_
      exact f3_check (l := []) hs ho hok hu hsz nils_sl nils_sl (by decide) hG
    · rw [hp] at hp2; cases hp2
  · refine op_ext3 (fun K hK => growV_live _ _ _ K hK) (J3_10_in (f11_ok hs.pre hok hsz (fun hp2 => ?_) fun lv2 l2 hlv hp2 hm => ?_))
    · rw [hp] at hp2; cases hp2
    · rw [hp] at hp2
      simp only [Option.some.injEq, Prod.mk.injEq] at hp2
      obtain ⟨rfl, rfl⟩ := hp2
      have hl := pickL_at hp
      rw [ref_eq hlv hm, ← hl]
      refine op_ext3 (fun K hK => wV_live _ _ _ K hK) ?_
      have hlen : l.length ≤ all.length := by rw [hl]; exact pickAt_len all lv
      refine f3_check (l := l) hs.pre.pre ho.pre.pre hok hu hsz (growV_sl (get_pre (by rw [get_app0]; rfl)) (irows_len l)) (wV_sl (by rw [get_app0]; rfl) (irows_len l)) (by omega) ?_
      rw [List.append_assoc]
      exact h _
end

end Go.Am

/- The law PickPicks, walked. -/
namespace Go.Am
open Go

theorem f3_ok {B : Base} {H : Heap} {Q : AV → Heap → Prop} {v : AV} {all : List Tab} {x1 : Int} (hs : Sl B H 36 v (all.map Tab.row)) (hok : ∀ t ∈ all, t.Ok) (hu : ∀ t ∈ all, t.U8) (h : Q (.bool true) H) : Cl B 3 [v, .int .i64 x1] H Q := by
  refine f3_in fun n cl hn hcl hH hA => J3_14_in ?_
  subst hcl
  refine f9_ok ?_
  show J3_13 B (Cl B) n v x1 (.bool true) H Q
  refine J3_13_in ?_
  rw [hs.len, ob_some]
  refine op_prefix (k := min all.length 200) hs (by simp only [minInts, List.length_map]; split <;> omega) (by simp; omega) fun v' hs' _ => ?_
  rw [← List.map_take] at hs'
  generalize hl : all.take (min all.length 200) = l at hs'
  have hlen : l.length ≤ 200 := by rw [← hl, List.length_take]; omega
  have hok' : ∀ t ∈ l, t.Ok := fun t ht => hok t (by rw [← hl] at ht; exact List.mem_of_mem_take ht)
  have hu' : ∀ t ∈ l, t.U8 := fun t ht => hu t (by rw [← hl] at ht; exact List.mem_of_mem_take ht)
  refine J3_12_in ?_
  rw [show layParts [] [] = some [] from rfl, ob_some]
  refine slK_in ?_
  have fin : ∀ L : Heap, tidyK n Q (.bool true) (H ++ L) := fun L => tidy_drop hn hH low_bool h
  by_cases h0 : l = []
  · subst h0
    have happ : ∀ K : AV → Heap → Prop, K (.slice (.new H.length) 0 0 36 (some 0)) (H ++ [.arr []]) → aop B E0 (H ++ [.arr []]) K (.append 36 80 (.const (.slice (.new H.length) 0 0 36 (some 0))) (.const v')) := fun K hK => by
      have e1 := (hs'.pre (L := [AObj.arr []])).len
      have e2 := (hs'.pre (L := [AObj.arr []])).elems
      simp only [aop, opK, Opd.look, ob_some, e1, e2]
      exact hK
    refine happ _ ?_
    refine f3_rest (all := []) hs'.pre (wV_sl (k := H.length) (rows := []) (by rw [get_app0]; rfl) (fun r hr => by simp at hr)) (fun t ht => by simp at ht) (fun t ht => by simp at ht) (by decide) fun L => ?_
    rw [List.append_assoc]; exact fin _
  · refine op_appendE (k := H.length) (rows1 := []) (rows2 := l.map Tab.row) (by rw [get_app0]; rfl) (fun r hr => by simp at hr) hs'.pre (by simpa using h0) (by simp [maxBytes]; omega) fun o => ?_
    rw [set_app0, List.nil_append]
    refine f3_rest (all := l) (Sl.pre ?_) (wV_sl ?_ (tabs_len hok')) hok' hu' (by omega) fun L => ?_
    · exact hs'.pre
    · rw [show (H ++ [AObj.arr []]).length = (H ++ ([AObj.arr []] : List AObj).set 0 o).length from by simp, get_app0]; rfl
    · rw [List.append_assoc, List.append_assoc]; exact fin _

end Go.Am
