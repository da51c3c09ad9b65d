/- Entries; the functions Right; numbers and texts of the document. -/
import Derived.Test.YtdkgdkifeedcnaaAgX1
import Derived.Test.YtdkgdkifeedcnaaAgX2
import Derived.Test.YtdkgdkifeedcnaaAgX3
import Derived.Test.YtdkgdkifeedcnaaAgX4
import Derived.Test.YtdkgdkifeedcnaaAgX5
import Derived.Test.YtdkgdkifeedcnaaAgX6
import Derived.Test.YtdkgdkifeedcnaaAgX7
import Derived.Test.YtdkgdkifeedcnaaAgX8
import Derived.Test.YtdkgdkifeedcnaaWrB
namespace Go.Am
open Go

structure Ent where
  key : List UInt8
  value : List UInt8
  del : Bool
  seq : Int
deriving DecidableEq
def Ent.row (e : Ent) : List AV := [.str e.key, .str e.value, .bool e.del, .int .i64 e.seq]
theorem ents_len (l : List Ent) : ∀ r, r ∈ l.map Ent.row → r.length = 4 := fun r hr => by
  obtain ⟨i, _, rfl⟩ := List.mem_map.1 hr; rfl
def entR (e : Ent) : Bool := !(e.key == []) && (decide ((e.key.length : Int) ≤ 128) && (decide ((e.value.length : Int) ≤ 1024) && (!(e.del && !(e.value == [])) && (decide (e.seq ≥ 1) && decide (e.seq ≤ 1099511627776)))))
def entB (e : Ent) : List UInt8 := (if e.del then 1 else 0) :: (putF e.seq.toNat ++ (putF e.key.length ++ e.key) ++ (if e.del then [] else putF e.value.length ++ e.value))

section
variable {B : Base} {n : Nat} {H G : Heap} {Q : AV → Heap → Prop} {e : Ent}

theorem f59_ok (h : Q (.bool (entR e)) H) : Cl B 59 [.agg e.row] H Q := by
  refine f59_in fun n cl hn hcl hH hA => op_box rfl rfl (J59_0_in ?_)
  have p : ∀ {i : Nat} {v : AV}, e.row[i]? = some v → peek B (H ++ [AObj.var e.row]) (.ptr (some (.new H.length, i))) = some v := fun {i v} hv => peekV (c := e.row) (by rw [get_app0]; rfl) hv
  have fin : ∀ b : Bool, b = entR e → tidyK n Q (.bool b) (H ++ [.var e.row]) := fun b hb => by subst hb; exact tidy_drop hn hH low_bool h
  refine op_fldP ?_
  rw [p (v := .str e.key) (i := 0 + 0) rfl, ob_some, pStr_str, pStr_str]
  refine bs_iff.2 ⟨fun h1 => op_fldP ?_, fun h1 => fin _ (by simp only [entR]; rw [h1]; rfl)⟩
  rw [p (v := .str e.key) (i := 0 + 0) rfl, ob_some, pStr_str]
  refine bs_iff.2 ⟨fun h2 => op_fldP ?_, fun h2 => fin _ (by simp only [entR]; rw [h1, h2]; rfl)⟩
  rw [p (v := .str e.value) (i := 0 + 1) rfl, ob_some, pStr_str]
  refine bs_iff.2 ⟨fun h3 => op_fldP ?_, fun h3 => fin _ (by simp only [entR]; rw [h1, h2, h3]; rfl)⟩
  rw [p (v := .bool e.del) (i := 0 + 2) rfl, ob_some, pBool_bool]
  have tail : (e.del && !(e.value == [])) = false → aop B E0 (H ++ [.var e.row]) (fun v27 _ => ob (peek B (H ++ [.var e.row]) v27) fun c28 => pInt .i64 c28 fun n29 => bs (decide (n29 ≥ 1)) (aop B E0 (H ++ [.var e.row]) (fun v30 _ => ob (peek B (H ++ [.var e.row]) v30) fun c31 => pInt .i64 c31 fun n32 => ibinK .leq .i64 n32 1099511627776 fun v33 => tidyK n Q v33 (H ++ [.var e.row])) (.fieldPtr 3 (.const (.ptr (some (.new H.length, 0)))))) (tidyK n Q (.bool false) (H ++ [.var e.row]))) (.fieldPtr 3 (.const (.ptr (some (.new H.length, 0))))) := fun h4 => by
    refine op_fldP ?_
    rw [p (v := .int .i64 e.seq) (i := 0 + 3) rfl, ob_some, pInt_int]
    refine bs_iff.2 ⟨fun h5 => op_fldP ?_, fun h5 => fin _ (by simp only [entR]; rw [h1, h2, h3, h4, h5]; rfl)⟩
    rw [p (v := .int .i64 e.seq) (i := 0 + 3) rfl, ob_some, pInt_int]
    exact ib_le (fin _ (by simp only [entR]; rw [h1, h2, h3, h4, h5]; rfl))
  refine bs_iff.2 ⟨fun h4 => op_fldP ?_, fun h4 => tail (by rw [h4]; rfl)⟩
  rw [p (v := .str e.value) (i := 0 + 1) rfl, ob_some, pStr_str, pStr_str]
  exact bs_iff.2 ⟨fun h5 => fin _ (by simp only [entR]; rw [h1, h2, h3, h4, h5]; rfl), fun h5 => tail (by rw [h4, h5]; rfl)⟩

theorem f63_ok (h : Q (.bool (entR e)) H) : Cl B 63 [.agg e.row] H Q := by
  refine f63_in fun n cl hn hcl hH hA => op_box rfl rfl (J63_0_in ?_)
  have p : ∀ {i : Nat} {v : AV}, e.row[i]? = some v → peek B (H ++ [AObj.var e.row]) (.ptr (some (.new H.length, i))) = some v := fun {i v} hv => peekV (c := e.row) (by rw [get_app0]; rfl) hv
  have fin : ∀ b : Bool, b = entR e → tidyK n Q (.bool b) (H ++ [.var e.row]) := fun b hb => by subst hb; exact tidy_drop hn hH low_bool h
  have k0 : (!(e.key == [])) = decide ((e.key.length : Int) ≥ 1) := by
    cases e.key with
    | nil => rfl
    | cons a b => simp; omega
  refine op_fldP ?_
  rw [p (v := .str e.key) (i := 0 + 0) rfl, ob_some, pStr_str]
  refine bs_iff.2 ⟨fun h1 => op_fldP ?_, fun h1 => fin _ (by simp only [entR]; rw [k0, h1]; rfl)⟩
  rw [← k0] at h1
  rw [p (v := .str e.key) (i := 0 + 0) rfl, ob_some, pStr_str]
  refine bs_iff.2 ⟨fun h2 => op_fldP ?_, fun h2 => fin _ (by simp only [entR]; rw [h1, h2]; rfl)⟩
  rw [p (v := .str e.value) (i := 0 + 1) rfl, ob_some, pStr_str]
  refine bs_iff.2 ⟨fun h3 => op_fldP ?_, fun h3 => fin _ (by simp only [entR]; rw [h1, h2, h3]; rfl)⟩
  rw [p (v := .bool e.del) (i := 0 + 2) rfl, ob_some, pBool_bool]
  have tail : (e.del && !(e.value == [])) = false → aop B E0 (H ++ [.var e.row]) (fun v27 _ => ob (peek B (H ++ [.var e.row]) v27) fun c28 => pInt .i64 c28 fun n29 => bs (decide (n29 ≥ 1)) (aop B E0 (H ++ [.var e.row]) (fun v30 _ => ob (peek B (H ++ [.var e.row]) v30) fun c31 => pInt .i64 c31 fun n32 => ibinK .leq .i64 n32 1099511627776 fun v33 => tidyK n Q v33 (H ++ [.var e.row])) (.fieldPtr 3 (.const (.ptr (some (.new H.length, 0)))))) (tidyK n Q (.bool false) (H ++ [.var e.row]))) (.fieldPtr 3 (.const (.ptr (some (.new H.length, 0))))) := fun h4 => by
    refine op_fldP ?_
    rw [p (v := .int .i64 e.seq) (i := 0 + 3) rfl, ob_some, pInt_int]
    refine bs_iff.2 ⟨fun h5 => op_fldP ?_, fun h5 => fin _ (by simp only [entR]; rw [h1, h2, h3, h4, h5]; rfl)⟩
    rw [p (v := .int .i64 e.seq) (i := 0 + 3) rfl, ob_some, pInt_int]
    exact ib_le (fin _ (by simp only [entR]; rw [h1, h2, h3, h4, h5]; rfl))
  refine bs_iff.2 ⟨fun h4 => op_fldP ?_, fun h4 => tail (by rw [h4]; rfl)⟩
  rw [p (v := .str e.value) (i := 0 + 1) rfl, ob_some, pStr_str, pStr_str]
  exact bs_iff.2 ⟨fun h5 => tail (by rw [h4, h5]; rfl), fun h5 => fin _ (by simp only [entR]; rw [h1, h2, h3, h4, h5]; rfl)⟩

/-! ### Numbers and texts of the document -/
theorem sb_add {a b : List UInt8} {K : AV → Prop} (hl : a.length + b.length ≤ maxInt) (h : K (.str (a ++ b))) : sbinK .add a b K := by
  show (if a.length + b.length ≤ maxInt then K (.str (a ++ b)) else False)
  rw [if_pos hl]; exact h
theorem mod_byte (x : Nat) : IntKind.u8.wrap (IntKind.u8.wrap (Int.tmod (x : Int) 128) + 128) = (((UInt8.ofNat (x % 128 + 128)).toNat : Nat) : Int) := by
  have e1 : Int.tmod (x : Int) 128 = ((x % 128 : Nat) : Int) := by rw [Int.tmod_eq_emod_of_nonneg (by omega)]; omega
  rw [e1, IntWalk.u8_in ((x % 128 : Nat) : Int) (by omega), IntWalk.u8_in (((x % 128 : Nat) : Int) + 128) (by omega), UInt8.toNat_ofNat_of_lt' (by show _ < 256; omega)]; omega
theorem f66_loop (hn : n = H.length) (hH : LowH n H) (x : Nat) : ∀ (s : List UInt8) (m : Nat) (L : Heap), x < 128 ^ m → x < 18446744073709551616 → s.length + m ≤ 10000000 → Q (.str (s ++ putF x)) H → L66_0 B (Cl B) n (.str s) (x : Int) (H ++ L) Q := by
  induction x using Nat.strongRecOn with
  | ind x ih =>
  intro s m L hx h64 hsz h
  rw [putF] at h
  refine L66_0_in (ACall.cle B table) (bs_dec (fun h1 => ?_) fun h1 => J66_1_in ?_)
  · obtain ⟨m, rfl⟩ : ∃ m', m = m' + 1 := by
      cases m with
      | zero => simp at hx; omega
      | succ m => exact ⟨m, rfl⟩
    have hx2 : x / 128 < 128 ^ m := by
      rw [Nat.pow_succ] at hx
      omega
    rw [if_neg (by omega)] at h
    rw [if_neg (by decide), mod_byte, show layParts [(.int .u8 0)] [(0, 1, .int .u8 (((UInt8.ofNat (x % 128 + 128)).toNat : Nat) : Int))] = some (brw (UInt8.ofNat (x % 128 + 128))) from rfl, ob_some]
    refine slK_in (op_toStr (s := [UInt8.ofNat (x % 128 + 128)]) (sl_row1 rfl) ?_)
    rw [pStr_str, pStr_str]
    refine sb_add (by simp [maxInt]; omega) ?_
    have e2 : IntKind.u64.wrap (Int.tdiv (x : Int) 128) = ((x / 128 : Nat) : Int) := by
      have : Int.tdiv (x : Int) 128 = ((x / 128 : Nat) : Int) := by rw [Int.tdiv_eq_ediv_of_nonneg (by omega)]; omega
      rw [this]
      simp only [IntKind.wrap, IntKind.bits, IntKind.signed]
      simp; omega
    rw [if_neg (by decide), e2, List.append_assoc]
    refine ih (x / 128) (by omega) _ m _ hx2 (by omega) (by simp; omega) ?_
    simpa using h
  · rw [if_pos (by omega)] at h
    rw [last_byte (by omega), show layParts [(.int .u8 0)] [(0, 1, .int .u8 (((UInt8.ofNat x).toNat : Nat) : Int))] = some (brw (UInt8.ofNat x)) from rfl, ob_some]
    refine slK_in (op_toStr (s := [UInt8.ofNat x]) (sl_row1 rfl) ?_)
    rw [pStr_str, pStr_str]
    refine sb_add (by simp [maxInt]; omega) ?_
    rw [List.append_assoc]
    exact tidy_drop hn hH low_str h
theorem f66_ok {s : List UInt8} {x : Nat} (hx : x < 18446744073709551616) (hs : s.length ≤ 1000000) (h : Q (.str (s ++ putF x)) H) : Cl B 66 [.str s, .int .u64 (x : Int)] H Q := by
  refine f66_in fun n cl hn hcl hH hA => ?_
  subst hcl
  have := f66_loop (B := B) (Q := Q) hn hH x s 10 [] (by omega) hx (by omega) h
  rwa [List.append_nil] at this
theorem f65_ok {s t : List UInt8} (hs : s.length ≤ 1000000) (ht : t.length ≤ 100000) (h : Q (.str (s ++ putF t.length ++ t)) H) : Cl B 65 [.str s, .str t] H Q := by
  refine f65_in fun n cl hn hcl hH hA => ?_
  subst hcl
  have e : IntKind.u64.wrap ((t.length : Nat) : Int) = ((t.length : Nat) : Int) := by
    simp only [IntKind.wrap, IntKind.bits, IntKind.signed]
    simp; omega
  have hp := putF_small t.length (by omega)
  rw [e]
  refine f66_ok (by omega) hs ?_
  rw [pStr_str]
  exact sb_add (by simp [maxInt]; omega) (tidy_none h)
theorem f32_ok {s t : List UInt8} (hs : s.length ≤ 1000000) (ht : t.length ≤ 100000) (h : Q (.str (s ++ putF t.length ++ t)) H) : Cl B 32 [.str s, .str t] H Q := by
  refine f32_in fun n cl hn hcl hH hA => ?_
  subst hcl
  refine f65_ok hs ht ?_
  rw [pStr_str]
  exact tidy_none h
theorem f34_ok {s : List UInt8} {x : Int} (hs : s.length ≤ 1000000) (hx : 0 ≤ x ∧ x ≤ 9223372036854775807) (h : Q (.str (s ++ putF x.toNat)) H) : Cl B 34 [.str s, .int .i64 x] H Q := by
  refine f34_in fun n cl hn hcl hH hA => ?_
  subst hcl
  have e : IntKind.u64.wrap x = ((x.toNat : Nat) : Int) := by
    simp only [IntKind.wrap, IntKind.bits, IntKind.signed]
    simp; omega
  rw [e]
  refine f66_ok (by omega) hs ?_
  rw [pStr_str]
  exact tidy_none h
theorem f33_ok {x : Int} (h : Q (.bool (numOk x)) H) : Cl B 33 [.int .i64 x] H Q := by
  refine f33_in fun n cl hn hcl hH hA => ?_
  refine bs_dec (fun h1 => ib_le (tidy_none ?_)) fun h1 => tidy_none ?_
  · have : numOk x = decide (x ≤ 1099511627776) := by simp only [numOk]; rw [decide_eq_true (by omega : (0 : Int) ≤ x), Bool.true_and]
    rw [← this]; exact h
  · have : numOk x = false := by simp only [numOk]; rw [decide_eq_false (by omega : ¬ (0 : Int) ≤ x), Bool.false_and]
    rw [← this]; exact h
end

end Go.Am

/- The function Bytes of the package entry; the writer's entries. -/
namespace Go.Am
open Go

section
variable {B : Base} {n : Nat} {H G : Heap} {Q : AV → Heap → Prop} {e : Ent}

theorem entR_len (h : entR e = true) : e.key.length ≤ 128 ∧ e.value.length ≤ 1024 ∧ 1 ≤ e.seq ∧ e.seq ≤ 1099511627776 := by
  simp only [entR, Bool.and_eq_true, decide_eq_true_eq] at h
  omega

theorem f60_ok (h1 : entR e = true → ∀ v L, Bs B (H ++ L) v (entB e) → Q v (H ++ L)) (h2 : entR e = false → ∀ L, Q .nils (H ++ L)) : Cl B 60 [.agg e.row] H Q := by
  refine f60_in fun n cl hn hcl hH hA => op_box rfl rfl ?_
  subst hcl
  have g0 : (H ++ [AObj.var e.row])[H.length]? = some (.var e.row) := by rw [get_app0]; rfl
  rw [peekVN g0 (n := 4) rfl, ob_some]
  refine f59_ok ?_
  rw [pBool_bool]
  refine bs_iff.2 ⟨fun hr => ?_, fun hr => tidy_none (h2 hr _)⟩
  obtain ⟨l1, l2, l3, l4⟩ := entR_len hr
  rw [show layParts [(.int .u8 0)] [(0, 1, .int .u8 0)] = some [.int .u8 0] from rfl, ob_some]
  refine slK_in ?_
  have hl0 : (H ++ [AObj.var e.row]).length = H.length + 1 := by simp
  rw [hl0]
  -- the first byte
  have go : ∀ G : Heap, (∃ L, G = H ++ L) → G[H.length]? = some (.var e.row) → Bs B G (.slice (.new (H.length + 1)) 0 1 1 (some 1)) [if e.del then 1 else 0] → J60_1 B (Cl B) n (.ptr (some (.new H.length, 0))) (.slice (.new (H.length + 1)) 0 1 1 (some 1)) G Q := fun G ⟨L, hL⟩ gr hb => by
    have p : ∀ {M : Heap} {i : Nat} {v : AV}, e.row[i]? = some v → peek B (G ++ M) (.ptr (some (.new H.length, i))) = some v := fun {M i v} hv => peekV (c := e.row) (get_pre gr) hv
    have p0 : ∀ {i : Nat} {v : AV}, e.row[i]? = some v → peek B G (.ptr (some (.new H.length, i))) = some v := fun {i v} hv => peekV (c := e.row) gr hv
    refine J60_1_in (op_fldP ?_)
    rw [p0 (v := .int .i64 e.seq) (i := 0 + 3) rfl, ob_some, pInt_int]
    refine op_fldP ?_
    rw [p0 (v := .str e.key) (i := 0 + 0) rfl, ob_some, pStr_str]
    have es : IntKind.u64.wrap e.seq = ((e.seq.toNat : Nat) : Int) := by
      simp only [IntKind.wrap, IntKind.bits, IntKind.signed]
      simp; omega
    rw [es]
    refine f62_ok hb (by omega) (by simp) ?_
    have ps := putF_small e.seq.toNat (by omega)
    have pk := putF_small e.key.length (by omega)
    have b1 : Bs B (G ++ [.arr (([if e.del then 1 else 0] ++ putF e.seq.toNat).map brw).flatten]) (growV G.length 1 (([if e.del then 1 else 0] ++ putF e.seq.toNat).map brw)) ([if e.del then 1 else 0] ++ putF e.seq.toNat) := growV_sl (by rw [get_app0]; rfl) (brws_len _)
    generalize ho1 : AObj.arr (([if e.del then 1 else 0] ++ putF e.seq.toNat).map brw).flatten = o1 at b1 ⊢
    generalize growV G.length 1 (([if e.del then 1 else 0] ++ putF e.seq.toNat).map brw) = v1 at b1 ⊢
    refine Sl.live b1 _ ⟨?_, op_fldP rfl, ?_⟩
    · rw [p (v := .str e.key) (i := 0 + 0) rfl, ob_some, pStr_str]
    refine f61_ok b1 (by simp; omega) (by omega) ?_
    have b2 : Bs B (G ++ [o1] ++ [.arr (([if e.del then 1 else 0] ++ putF e.seq.toNat ++ putF e.key.length ++ e.key).map brw).flatten]) (growV (G ++ [o1]).length 1 (([if e.del then 1 else 0] ++ putF e.seq.toNat ++ putF e.key.length ++ e.key).map brw)) ([if e.del then 1 else 0] ++ putF e.seq.toNat ++ putF e.key.length ++ e.key) :=
      growV_sl (by rw [get_app0, growO_ne (by simp)]; rfl) (brws_len _)
    generalize ho2 : AObj.arr (([if e.del then 1 else 0] ++ putF e.seq.toNat ++ putF e.key.length ++ e.key).map brw).flatten = o2 at b2 ⊢
    generalize growV (G ++ [o1]).length 1 (([if e.del then 1 else 0] ++ putF e.seq.toNat ++ putF e.key.length ++ e.key).map brw) = v2 at b2 ⊢
    refine Sl.live b2 _ (op_fldP ?_)
    rw [List.append_assoc, p (v := .bool e.del) (i := 0 + 2) rfl, ob_some, pBool_bool]
    rw [List.append_assoc] at b2
    have b0 : [if e.del then (1 : UInt8) else 0] ++ putF e.seq.toNat ++ putF e.key.length ++ e.key = (if e.del then 1 else 0) :: (putF e.seq.toNat ++ (putF e.key.length ++ e.key)) := by simp
    refine bs_iff.2 ⟨fun hd => J60_0_in (tidy_none ?_), fun hd => op_fldP ?_⟩
    · rw [hL, List.append_assoc] at b2 ⊢
      refine h1 hr _ _ ?_
      rw [b0] at b2
      simp only [entB]
      rw [hd] at b2 ⊢
      simpa using b2
    · rw [p (v := .str e.value) (i := 0 + 1) rfl, ob_some, pStr_str]
      refine f61_ok b2 (by simp; omega) (by omega) ?_
      have b3 : Bs B (G ++ ([o1] ++ [o2]) ++ [.arr (([if e.del then 1 else 0] ++ putF e.seq.toNat ++ putF e.key.length ++ e.key ++ putF e.value.length ++ e.value).map brw).flatten]) (growV (G ++ ([o1] ++ [o2])).length 1 (([if e.del then 1 else 0] ++ putF e.seq.toNat ++ putF e.key.length ++ e.key ++ putF e.value.length ++ e.value).map brw)) ([if e.del then 1 else 0] ++ putF e.seq.toNat ++ putF e.key.length ++ e.key ++ putF e.value.length ++ e.value) :=
        growV_sl (by rw [get_app0, growO_ne (by simp)]; rfl) (brws_len _)
      refine Sl.live b3 _ (J60_0_in (tidy_none ?_))
      generalize growV (G ++ ([o1] ++ [o2])).length 1 (([if e.del then 1 else 0] ++ putF e.seq.toNat ++ putF e.key.length ++ e.key ++ putF e.value.length ++ e.value).map brw) = v3 at b3 ⊢
      generalize AObj.arr (([if e.del then 1 else 0] ++ putF e.seq.toNat ++ putF e.key.length ++ e.key ++ putF e.value.length ++ e.value).map brw).flatten = o3 at b3 ⊢
      rw [hL, List.append_assoc, List.append_assoc] at b3 ⊢
      refine h1 hr _ _ ?_
      rw [b0] at b3
      simp only [entB]
      rw [hd] at b3 ⊢
      simpa using b3
  have gz : (H ++ [AObj.var e.row] ++ [.arr [.int .u8 0]])[H.length]? = some (.var e.row) := get_pre g0
  have ga : (H ++ [AObj.var e.row] ++ [.arr [.int .u8 0]])[H.length + 1]? = some (.arr [.int .u8 0]) := by rw [List.append_assoc, get_app]; rfl
  refine op_fldP ?_
  rw [peekV gz (v := .bool e.del) (i := 0 + 2) rfl, ob_some, pBool_bool]
  refine bs_iff.2 ⟨fun hd => ?_, fun hd => ?_⟩
  · have hb0 : Bs B (H ++ [AObj.var e.row] ++ [.arr [.int .u8 0]]) (.slice (.new (H.length + 1)) 0 1 1 (some 1)) [0] := ⟨brws_len _, .inr ⟨_, _, _, rfl, cellsAt_iff'.2 ⟨[.int .u8 0], by simp only [cellsOf, ga], by simp, rfl⟩⟩⟩
    refine op_idxB hb0 (i := 0) (c := 0) rfl fun _ => ?_
    refine op_st_arr (vs := [.int .u8 1]) (c := [.int .u8 0]) rfl rfl ga (by simp) (go _ ⟨[AObj.var e.row, .arr [.int .u8 1]], ?_⟩ ?_ ?_)
    · rw [List.append_assoc, set_app]; rfl
    · rw [get_set_ne (by omega)]; exact gz
    · rw [hd]
      exact ⟨brws_len _, .inr ⟨_, _, _, rfl, cellsAt_iff'.2 ⟨[.int .u8 1], by simp only [cellsOf, get_set (lt_of_get ga)]; rfl, by simp, rfl⟩⟩⟩
  · refine go _ ⟨[AObj.var e.row, .arr [.int .u8 0]], by simp⟩ gz ?_
    rw [hd]
    exact ⟨brws_len _, .inr ⟨_, _, _, rfl, cellsAt_iff'.2 ⟨[.int .u8 0], by simp only [cellsOf, ga], by simp, rfl⟩⟩⟩
end

end Go.Am

/- The writer, with what may be appended to it; its entries. -/
namespace Go.Am
open Go

structure Sw (B : Base) (H G : Heap) (row : List AV) (wi : Nat) (s : List UInt8) (wr : Bool) : Prop where
  app : ∃ L b, G = H ++ L ∧ Wr G wi b wr ∧ AppOk B H L 1 b (s.map brw)
  req : G[H.length]? = some (.var row)
  far : H.length < wi

section
variable {B : Base} {n : Nat} {H G : Heap} {Q : AV → Heap → Prop} {row : List AV} {wi : Nat} {s t : List UInt8} {wr : Bool} {K : Heap → Prop} {e : Ent}

theorem AppOk.pre {L M : Heap} {es : Nat} {v : AV} {rows : List (List AV)} (h : AppOk B H L es v rows) : AppOk B H (L ++ M) es v rows := by
  obtain ⟨h0, h1 | ⟨o, off, rfl, hc⟩ | ⟨j, hne, rfl, hg⟩⟩ := h
  · exact ⟨h0, .inl h1⟩
  · exact ⟨h0, .inr (.inl ⟨o, off, rfl, by rw [← List.append_assoc]; exact cellsAt_pre hc⟩)⟩
  · exact ⟨h0, .inr (.inr ⟨j, hne, rfl, get_pre hg⟩)⟩
theorem Sw.pre {M : Heap} (h : Sw B H G row wi s wr) : Sw B H (G ++ M) row wi s wr := by
  obtain ⟨⟨L, b, rfl, hw, ha⟩, hr, hf⟩ := h
  exact ⟨⟨L ++ M, b, by rw [List.append_assoc], get_pre hw, ha.pre⟩, get_pre hr, hf⟩
theorem Sw.grown (h : Sw B H G row wi s wr) : ∃ L, G = H ++ L := by
  obtain ⟨⟨L, b, rfl, _⟩, _⟩ := h
  exact ⟨L, rfl⟩
/-- The writer's cell is written anew. -/
theorem AppOk.set {L : Heap} {k : Nat} {b c : AV} {wr wr' : Bool} (ha : AppOk B H L 1 b (s.map brw)) (hg : (H ++ L)[H.length + k]? = some (.var [b, .bool wr])) : AppOk B H (L.set k (.var [c, .bool wr'])) 1 b (s.map brw) := by
  have hs := ha.sl
  have hb : Bs B (H ++ L) b s := hs
  have hb2 := hb.set_wr (c := c) (wr' := .bool wr') hb hg
  rw [set_app] at hb2
  obtain ⟨h0, h1 | ⟨o, off, e1, hc⟩ | ⟨j, hne, e1, hj⟩⟩ := ha
  · exact ⟨h0, .inl h1⟩
  · refine ⟨h0, .inr (.inl ⟨o, off, e1, ?_⟩)⟩
    obtain ⟨_, ⟨e2, _⟩ | ⟨o2, off2, cap2, e2, hc2⟩⟩ := hb2
    · rw [e1] at e2; cases e2
    · rw [e1] at e2; cases e2; exact hc2
  · refine ⟨h0, .inr (.inr ⟨j, hne, e1, ?_⟩)⟩
    rw [List.getElem?_set]
    split
    · rename_i e2; subst e2
      rw [get_app, hj] at hg; cases hg
    · exact hj
theorem Sw.must {so : Bool} (h : Sw B H G row wi s wr) (hk : ∀ G', Sw B H G' row wi s (wr || !so) → (∀ j, j ≠ wi → G'[j]? = G[j]?) → K G') : Cl B 25 [wp wi, .bool so] G fun v G' => pLive v fun _ => K G' := by
  obtain ⟨⟨L, b, rfl, hw, ha⟩, hr, hf⟩ := h
  obtain ⟨k, rfl⟩ : ∃ k, wi = H.length + k := ⟨wi - H.length, by omega⟩
  have hlt := lt_of_get hw
  refine f25_ok hw (live_unit (hk _ ⟨⟨L.set k (.var [b, .bool (wr || !so)]), b, set_app _ _, get_set hlt, ha.set hw⟩, ?_, hf⟩ fun j hj => get_set_ne (Ne.symm hj)))
  rw [get_set_ne (by omega)]; exact hr
theorem own_app {L1 : Heap} {G1 : Heap} (hL : G1 = H ++ L1) (hne : t ≠ []) {k : Nat} (hk : k = G1.length) : AppOk B H (L1 ++ [.arr (t.map brw).flatten]) 1 (growV k 1 (t.map brw)) (t.map brw) := by
  subst hk hL
  have hm : t.map brw ≠ [] := by simpa using hne
  refine ⟨brws_len _, .inr (.inr ⟨L1.length, hm, ?_, ?_⟩)⟩
  · rw [growV_ne hm, List.length_append]
  · rw [List.getElem?_append_right (Nat.le_refl _), Nat.sub_self]; rfl
theorem Sw.num {x : Int} (h : Sw B H G row wi s wr) (hsz : s.length ≤ 4000) (hx : x ≤ 9223372036854775807) (hk : ∀ G', Sw B H G' row wi (s ++ putF x.toNat) (wr || !numOk x) → K G') : Cl B 29 [wp wi, .int .i64 x] G fun v G' => pLive v fun _ => K G' := by
  obtain ⟨⟨L, b, rfl, hw, ha⟩, hr, hf⟩ := h
  refine f29_ok hw ha.sl hx hsz fun G1 hl hg hw1 => live_unit (hk _ ?_)
  obtain ⟨L1, hL1⟩ := pre_of hl hf hg
  refine ⟨⟨L1 ++ [.arr ((s ++ putF x.toNat).map brw).flatten], growV (H ++ L).length 1 ((s ++ putF x.toNat).map brw), by rw [hL1, List.append_assoc], get_pre hw1, own_app hL1 (by simp [putF_ne]) hl.symm⟩, ?_, hf⟩
  have hlt := lt_of_get hr
  rw [get_low (by omega), hg _ (by omega)]; exact hr
theorem Sw.st (h : Sw B H G row wi s wr) : St B H G row wi s wr := by
  obtain ⟨⟨L, b, rfl, hw, ha⟩, hr, hf⟩ := h
  exact ⟨⟨L, rfl⟩, hr, ⟨b, hw, ha.sl⟩, hf⟩

/-- An entry. -/
theorem Sw.entry (h : Sw B H G row wi s wr) (hsz : s.length ≤ 200000) (hk : ∀ G', Sw B H G' row wi (s ++ if entR e = true then entB e else []) (wr || !entR e) → K G') : Cl B 27 [wp wi, .agg e.row] G fun v G' => pLive v fun _ => K G' := by
  refine f27_in fun n cl hn hcl hH hA => op_box rfl rfl ?_
  subst hcl
  have g0 : (G ++ [AObj.var e.row])[G.length]? = some (.var e.row) := by rw [get_app0]; rfl
  have hwi : wi < G.length := by obtain ⟨⟨L, b, _, hw, _⟩, _⟩ := h; exact lt_of_get hw
  rw [peekVN g0 (n := 4) rfl, ob_some]
  refine f59_ok (tyK_bool ?_)
  refine (h.pre (M := [.var e.row])).must fun G1 h1 hfr => ?_
  have g1 : G1[G.length]? = some (.var e.row) := by rw [hfr _ (by omega)]; exact g0
  obtain ⟨⟨L1, b, hG1, hw1, ha1⟩, hr1, hf1⟩ := h1
  refine op_nil (op_fldP ?_)
  rw [peekV hw1 (v := b) (i := 0 + 0) rfl, ob_some]
  refine Sl.live ha1.sl _ ?_
  rw [peekVN g1 (n := 4) rfl, ob_some]
  have rest : ∀ (v : AV) (M : Heap) (t : List UInt8), Bs B (G1 ++ M) v t → t.length ≤ 2000 → t = (if entR e = true then entB e else []) →
      aop B E0 (G1 ++ M) (fun v18 H19 => (wp wi : AV) = wp wi ∧ aop B E0 H19 (fun v20 _ => aop B E0 H19 (fun v21 _ => aop B E0 H19 (fun _ H23 => tidyK n (fun v G' => pLive v fun _ => K G') (.tuple []) H23) (.st 1 (.const v21) (.const v18))) (.fieldPtr 0 (.const v20))) (.nilCheck (.const (wp wi)))) (.append 1 1 (.const b) (.const v)) := fun v M t hv htl ht => by
    subst hG1
    have ha2 : AppOk B H (L1 ++ M) 1 b (s.map brw) := ha1.pre
    have hw2 : Wr (H ++ (L1 ++ M)) wi b (wr || !entR e) := by rw [← List.append_assoc]; exact get_pre hw1
    have hr2 : (H ++ (L1 ++ M))[H.length]? = some (.var row) := by rw [← List.append_assoc]; exact get_pre hr1
    rw [List.append_assoc] at hv ⊢
    obtain ⟨k, rfl⟩ : ∃ k, wi = H.length + k := ⟨wi - H.length, by omega⟩
    by_cases h0 : t = []
    · subst h0
      have ap : ∀ K' : AV → Heap → Prop, K' b (H ++ (L1 ++ M)) → aop B E0 (H ++ (L1 ++ M)) K' (.append 1 1 (.const b) (.const v)) := fun K' hK => by
        have e1 := Sl.len hv
        have e2 := Sl.elems hv
        simp only [List.map_nil, List.length_nil, List.flatten_nil] at e1 e2
        simp only [aop, opK, Opd.look, ob_some, e1, e2]
        rw [if_pos (by simp)]
        have : appendTo B (H ++ (L1 ++ M)) 1 1 b 0 ([] : List AV) = some (b, H ++ (L1 ++ M)) := by
          obtain ⟨_, ⟨rfl, _⟩ | ⟨o, off, rfl, _⟩ | ⟨j, _, rfl, _⟩⟩ := ha2 <;> rfl
        rw [this, ob_some]; exact hK
      refine ap _ ⟨rfl, op_nil (op_fldP ?_)⟩
      have hcb : b.cells? = some [b] := by
        obtain ⟨_, ⟨rfl, _⟩ | ⟨o, off, rfl, _⟩ | ⟨j, _, rfl, _⟩⟩ := ha2 <;> rfl
      refine op_st (vs := [b]) (c := [b, .bool (wr || !entR e)]) hcb rfl hw2 (by simp) (tidy_none (live_unit (hk _ ?_)))
      rw [show putAt [b, .bool (wr || !entR e)] (0 + 0) [b] = [b, .bool (wr || !entR e)] from rfl, set_same hw2, ← ht, List.append_nil]
      exact ⟨⟨L1 ++ M, b, rfl, hw2, ha2⟩, hr2, hf1⟩
    · refine op_appX ha2 hv (by simpa using h0) (by simp [maxBytes]; omega) fun L3 hL3 hfr3 => ⟨rfl, op_nil (op_fldP ?_)⟩
      have e1 : s.map brw ++ t.map brw = (s ++ t).map brw := by simp
      rw [e1]
      have hk3 : L3[k]? = (L1 ++ M)[k]? := hfr3 k fun r e3 => by
        obtain ⟨_, ⟨rfl, _⟩ | ⟨o, off, rfl, _⟩ | ⟨j, _, rfl, hj⟩⟩ := ha2
        · cases e3
        · cases e3
        · have : j = k := by
            simp only [AV.slice.injEq, Id.new.injEq] at e3
            omega
          subst this
          have hw3 := hw2
          unfold Wr at hw3
          rw [get_app, hj] at hw3; cases hw3
      have h03 : L3[0]? = (L1 ++ M)[0]? := hfr3 0 fun r e3 => by
        obtain ⟨_, ⟨rfl, _⟩ | ⟨o, off, rfl, _⟩ | ⟨j, _, rfl, hj⟩⟩ := ha2
        · cases e3
        · cases e3
        · have : j = 0 := by
            simp only [AV.slice.injEq, Id.new.injEq] at e3
            omega
          subst this
          rw [get_app0, hj] at hr2; cases hr2
      have hw3 : (H ++ (L3 ++ [.arr ((s ++ t).map brw).flatten]))[H.length + k]? = some (.var [b, .bool (wr || !entR e)]) := by
        have hw2' := hw2
        unfold Wr at hw2'
        rw [get_app] at hw2' ⊢
        rw [List.getElem?_append_left (by rw [hL3]; exact lt_of_get hw2'), hk3]; exact hw2'
      refine op_st (vs := [.slice (.new (H.length + (L1 ++ M).length)) 0 ((s ++ t).map brw).length 1 none]) (c := [b, .bool (wr || !entR e)]) rfl rfl hw3 (by simp) (tidy_none (live_unit (hk _ ?_)))
      have hlt := lt_of_get hw3
      have hkl : k < L3.length := by
        rw [hL3]
        have hw2' := hw2
        unfold Wr at hw2'
        rw [get_app] at hw2'
        exact lt_of_get hw2'
      rw [← ht]
      refine ⟨⟨L3.set k (.var [.slice (.new (H.length + (L1 ++ M).length)) 0 ((s ++ t).map brw).length 1 none, .bool (wr || !entR e)]) ++ [.arr ((s ++ t).map brw).flatten], .slice (.new (H.length + (L1 ++ M).length)) 0 ((s ++ t).map brw).length 1 none, ?_, get_set hlt, ?_⟩, ?_, hf1⟩
      · rw [set_app, List.set_append_left _ _ hkl]; rfl
      · refine ⟨brws_len _, .inr (.inr ⟨(L1 ++ M).length, by simp [h0], rfl, ?_⟩)⟩
        rw [List.getElem?_append_right (by simp [hL3])]
        simp [hL3]
      · rw [get_set_ne (by omega)]
        rw [get_app0] at hr2
        have h0l : 0 < L3.length := by rw [hL3]; exact lt_of_get hr2
        rw [get_app0, List.getElem?_append_left h0l, h03]; exact hr2
  -- what the entry's bytes are
  have hconj : ∀ M : Heap, peek B (G1 ++ M) (.ptr (some (.new wi, 0 + 0))) = some b := fun M => peekV (get_pre hw1) rfl
  refine f60_ok (fun hr v M hv => ?_) fun hr M => ?_
  · obtain ⟨l1, l2, l3, l4⟩ := entR_len hr
    have hle : (entB e).length ≤ 2000 := by
      have := putF_small e.seq.toNat (by omega)
      have := putF_small e.key.length (by omega)
      have := putF_small e.value.length (by omega)
      simp only [entB, List.length_cons, List.length_append]
      split <;> simp <;> omega
    refine Sl.live hv _ ⟨?_, op_fldP rfl, op_nil rfl, rfl, rfl, rest v M (entB e) hv hle (by rw [hr]; rfl)⟩
    rw [hconj, ob_some]
    exact Sl.live ha1.sl _ rfl
  · refine live_nils _ ⟨?_, op_fldP rfl, op_nil rfl, rfl, rfl, rest .nils M [] Bs.nil (by simp) (by rw [hr]; rfl)⟩
    rw [hconj, ob_some]
    exact Sl.live ha1.sl _ rfl
end

end Go.Am

/- The function Ask: what it answers to any request. -/
namespace Go.Am
open Go

structure Rq where
  kind : Int
  ents : List Ent
  key : List UInt8
  lo : List UInt8
  hi : List UInt8
  epoch : Int
deriving DecidableEq
def Rq.row (r : Rq) (ev : AV) : List AV := [.int .i64 r.kind, ev, .str r.key, .str r.lo, .str r.hi, .int .i64 r.epoch]
def entsB (l : List Ent) : List UInt8 := l.flatMap fun e => if entR e = true then entB e else []
def entsW (l : List Ent) : Bool := l.any fun e => !entR e

section
variable {B : Base} {n : Nat} {H G : Heap} {Q : AV → Heap → Prop} {row : List AV} {wi : Nat} {s t : List UInt8} {wr : Bool} {K : Heap → Prop}

theorem Sw.text (h : Sw B H G row wi s wr) (hsz : s.length ≤ 4000) (ht : t.length ≤ 100000) (hk : ∀ G', Sw B H G' row wi (s ++ putF t.length ++ t) wr → K G') : Cl B 28 [wp wi, .str t] G fun v G' => pLive v fun _ => K G' := by
  obtain ⟨⟨L, b, rfl, hw, ha⟩, hr, hf⟩ := h
  refine f28_ok hw ha.sl hsz ht fun G1 hl hg hw1 => live_unit (hk _ ?_)
  obtain ⟨L1, hL1⟩ := pre_of hl hf hg
  refine ⟨⟨L1 ++ [.arr ((s ++ putF t.length ++ t).map brw).flatten], growV (H ++ L).length 1 ((s ++ putF t.length ++ t).map brw), by rw [hL1, List.append_assoc], get_pre hw1, own_app hL1 (by simp [putF_ne]) hl.symm⟩, ?_, hf⟩
  have hlt := lt_of_get hr
  rw [get_low (by omega), hg _ (by omega)]; exact hr
theorem Sw.fld {v : AV} {off : Nat} {K : AV → Heap → Prop} (h : Sw B H G row wi s wr) (hv : row[off]? = some v) (hk : peek B G (.ptr (some (.new H.length, off))) = some v → K (.ptr (some (.new H.length, off))) G) : aop B E0 G K (.fieldPtr off (.const (wp H.length))) := h.st.fld hv hk

theorem entB_len {e : Ent} : (if entR e = true then entB e else []).length ≤ 2000 := by
  split
  · rename_i hr
    obtain ⟨l1, l2, l3, l4⟩ := entR_len hr
    have := putF_small e.seq.toNat (by omega)
    have := putF_small e.key.length (by omega)
    have := putF_small e.value.length (by omega)
    simp only [entB, List.length_cons, List.length_append]
    split <;> simp <;> omega
  · simp

theorem f26_loop {l : List Ent} {ev : AV} (he : Sl B H 4 ev (l.map Ent.row)) (hsz : l.length ≤ 50) (hs0 : s.length ≤ 10000) (hk : ∀ G', Sw B H G' row wi (s ++ entsB l) (wr || entsW l) → K G') :
    ∀ (rest : List Ent) (i : Nat) (acc : List UInt8) (w : Bool) (G : Heap), l.drop i = rest → acc ++ entsB rest = s ++ entsB l → (w || entsW rest) = (wr || entsW l) → acc.length ≤ 10000 + 2000 * i → Sw B H G row wi acc w →
      L26_0 B (Cl B) n (.func (.func 27) [wp wi] []) ev (l.length : Int) (i : Int) G (fun v G' => pLive v fun _ => K G')
  | [], i, acc, w, G, hd, ha, hw, hal, hG => by
    have hl := drop_nil hd
    refine L26_0_in (ACall.cle B table) (bs_dec (fun h1 => by omega) fun _ => tidy_none (live_unit (hk _ ?_)))
    simp only [entsB, entsW, List.flatMap_nil, List.append_nil, List.any_nil, Bool.or_false] at ha hw
    unfold entsB entsW
    rw [← ha, ← hw]; exact hG
  | e :: r, i, acc, w, G, hd, ha, hw, hal, hG => by
    obtain ⟨hget, hlt, hd'⟩ := drop_cons hd
    obtain ⟨L, rfl⟩ := hG.grown
    have hrow : (l.map Ent.row)[i]? = some e.row := by simp [hget]
    have hs : Sl B (H ++ L) 4 ev (l.map Ent.row) := he.pre
    refine L26_0_in (ACall.cle B table) (bs_dec (fun _ => op_idx hs (by simpa using hlt) ?_) fun h1 => absurd (by omega) h1)
    rw [(hs.el hrow).peekN (n := 4) rfl, ob_some]
    refine op_alloc (op_st_last rfl rfl ?_)
    rw [peekVN (n := 4) (by rw [get_app0]; rfl) rfl, ob_some]
    show Cl B 27 [wp wi, .agg e.row] _ _
    have hel := @entB_len e
    refine (hG.pre (M := [.var e.row])).entry (by omega) fun G' h' => ?_
    rw [w64 (n := (i : Int) + 1) (by omega)]
    refine f26_loop he hsz hs0 hk r (i + 1) _ _ G' hd' ?_ ?_ ?_ h'
    · rw [← ha]; simp [entsB]
    · rw [← hw]; simp [entsW, Bool.or_assoc]
    · rw [List.length_append]; omega
theorem Sw.list {l : List Ent} {ev : AV} (h : Sw B H G row wi s wr) (he : Sl B H 4 ev (l.map Ent.row)) (hsz : l.length ≤ 50) (hs : s.length ≤ 1000) (hk : ∀ G', Sw B H G' row wi ((s ++ putF l.length) ++ entsB l) ((wr || !decide ((l.length : Int) ≤ 32)) || entsW l) → K G') :
    Cl B 26 [wp wi, ev, .int .i64 32, .func (.func 27) [wp wi] []] G fun v G' => pLive v fun _ => K G' := by
  refine f26_in fun n cl hn hcl hH hA => ?_
  subst hcl
  have hlen : lenOf ev = some l.length := by have := he.len; rwa [List.length_map] at this
  rw [hlen, ob_some]
  refine ib_le (h.must fun G1 h1 _ => ?_)
  rw [ob_some]
  have hn0 : numOk ((l.length : Nat) : Int) = true := by simp [numOk]; omega
  refine h1.num (by omega) (by omega) fun G2 h2 => ?_
  rw [hn0, Bool.not_true, Bool.or_false] at h2
  have hpl := putF_small l.length (by omega)
  rw [ob_some]
  exact f26_loop (s := s ++ putF l.length) he hsz (by simp; omega) hk l 0 _ _ G2 rfl rfl rfl (by simp; omega) h2

/-! ### Ask -/
def v0 (r : Rq) : Bool := !(decide (r.kind ≥ 1) && decide (r.kind ≤ 6))
def v1 (r : Rq) : Bool := !(r.kind == 1 || decide (r.ents = []))
def v2 (r : Rq) : Bool := !(r.kind == 2 || r.key == [])
def v3 (r : Rq) : Bool := !(r.kind == 3 || (r.lo == [] && r.hi == []))
def v4 (r : Rq) : Bool := !(r.kind == 4 || (r.kind == 5 || r.epoch == 0))
def v5 (r : Rq) : Bool := !decide (maxInts (r.key.length : Int) [(r.lo.length : Int), (r.hi.length : Int)] ≤ 128)
def v6 (r : Rq) : Bool := if r.kind = 1 then ((!decide ((r.ents.length : Int) > 0)) || !decide ((r.ents.length : Int) ≤ 32)) || entsW r.ents else if r.kind = 4 ∨ r.kind = 5 then !numOk r.epoch else false
def akW (r : Rq) : Bool := (v0 r || v1 r || v2 r || v3 r || v4 r || v5 r) || v6 r
def fb (k : Int) : UInt8 := UInt8.ofNat (IntKind.u8.wrap k).toNat
def akF (r : Rq) : List UInt8 := [fb r.kind] ++ (if r.kind = 1 then putF r.ents.length ++ entsB r.ents else if r.kind = 2 then putF r.key.length ++ r.key else if r.kind = 3 then (putF r.lo.length ++ r.lo) ++ (putF r.hi.length ++ r.hi) else if r.kind = 4 ∨ r.kind = 5 then putF r.epoch.toNat else [])

variable {r : Rq} {ev : AV}
theorem g13_done (h : Sw B H G (r.row ev) (H.length + 2) s wr) (h1 : wr = true → ∀ L, Q (.tuple [.nils, .int .i64 1]) (H ++ L)) (h2 : wr = false → ∀ v L, Bs B (H ++ L) v s → Q (.tuple [v, .int .i64 0]) (H ++ L)) : J13_5 B (Cl B) n (wp (H.length + 2)) G Q := by
  obtain ⟨L, hL⟩ := h.grown
  subst hL
  refine J13_5_in (h.st.done (fun e => ?_) fun e v hv => ?_)
  · exact op_ext2 (fun K hK => hK) (tidy_none (h1 e L))
  · exact op_ext2 (fun K hK => Sl.live hv K hK) (tidy_none (h2 e v L hv))

theorem g13_switch (h : Sw B H G (r.row ev) (H.length + 2) [fb r.kind] wr) (he : Sl B H 4 ev (r.ents.map Ent.row)) (hx : r.epoch ≤ 9223372036854775807) (hkl : r.ents.length ≤ 50 ∧ r.key.length ≤ 1000 ∧ r.lo.length ≤ 1000 ∧ r.hi.length ≤ 1000)
    (h1 : (wr || v6 r) = true → ∀ L, Q (.tuple [.nils, .int .i64 1]) (H ++ L)) (h2 : (wr || v6 r) = false → ∀ v L, Bs B (H ++ L) v (akF r) → Q (.tuple [v, .int .i64 0]) (H ++ L)) : J13_6 B (Cl B) n (wp H.length) (wp (H.length + 2)) G Q := by
  have hlen : lenOf ev = some r.ents.length := by have := he.len; rwa [List.length_map] at this
  refine J13_6_in (h.fld (v := .int .i64 r.kind) (off := 0) rfl fun p => ?_)
  rw [p, ob_some, pInt_int]
  by_cases e1 : r.kind = 1
  · refine J13_4_in (ib_eq_yes e1 (J13_3_in ?_))
    rw [pBool_bool, if_pos rfl]
    refine h.fld (v := ev) (off := 1) rfl fun p => ?_
    rw [p, ob_some]
    refine Sl.live he _ ?_
    rw [hlen, ob_some]
    refine ib_gt (h.must fun G1 st1 _ => J13_0_in (st1.fld (v := ev) (off := 1) rfl fun p => ?_))
    rw [p, ob_some]
    refine Sl.live he _ (st1.list he hkl.1 (by simp) fun G2 st2 => ?_)
    refine g13_done st2 (fun e => h1 ?_) fun e v L hv => h2 ?_ v L ?_
    · simp only [v6, if_pos e1]; rw [← e]; simp [Bool.or_assoc]
    · simp only [v6, if_pos e1]; rw [← e]; simp [Bool.or_assoc]
    · simp only [akF, if_pos e1]; simpa using hv
  refine J13_4_in (ib_eq_no e1 (J13_3_in ?_))
  rw [pBool_bool, if_neg (by simp)]
  by_cases e2 : r.kind = 2
  · refine ib_eq_yes e2 (J13_2_in ?_)
    rw [pBool_bool, if_pos rfl]
    have hn4 : v6 r = false := by simp [v6, e2]
    refine h.fld (v := .str r.key) (off := 2) rfl fun p => ?_
    rw [p, ob_some, pStr_str]
    refine h.text (by simp) (by omega) fun G' h' => g13_done h' (fun e => h1 (by rw [hn4, Bool.or_false]; exact e)) fun e => ?_
    have := h2 (by rw [hn4, Bool.or_false]; exact e)
    simp only [akF, if_neg e1, if_pos e2] at this
    simpa using this
  refine ib_eq_no e2 (J13_2_in ?_)
  rw [pBool_bool, if_neg (by simp)]
  by_cases e3 : r.kind = 3
  · refine bs_yes (by simp [e3]) (h.fld (v := .str r.lo) (off := 3) rfl fun p => ?_)
    have hn4 : v6 r = false := by simp [v6, e3]
    rw [p, ob_some, pStr_str]
    refine h.text (by simp) (by omega) fun G' h' => h'.fld (v := .str r.hi) (off := 4) rfl fun p => ?_
    rw [p, ob_some, pStr_str]
    have hpl := putF_small r.lo.length (by omega)
    refine h'.text (by simp; omega) (by omega) fun G2 h2' => g13_done h2' (fun e => h1 (by rw [hn4, Bool.or_false]; exact e)) fun e => ?_
    have := h2 (by rw [hn4, Bool.or_false]; exact e)
    simp only [akF, if_neg e1, if_neg e2, if_pos e3] at this
    simpa using this
  refine bs_no (by simp [e3]) ?_
  have goJ : ∀ c : Bool, c = (r.kind == 4 || r.kind == 5) → J13_1 B (Cl B) n (wp H.length) (wp (H.length + 2)) (.bool c) G Q := fun c hc => by
    refine J13_1_in ?_
    rw [pBool_bool]
    by_cases c1 : c = true
    · rw [if_pos c1]
      have hor : r.kind = 4 ∨ r.kind = 5 := by rw [c1] at hc; simpa using hc.symm
      simp only [v6, if_neg e1, if_pos hor] at h1 h2
      refine h.fld (v := .int .i64 r.epoch) (off := 5) rfl fun p => ?_
      rw [p, ob_some, pInt_int]
      refine h.num (by simp) hx fun G' h' => g13_done h' h1 fun e => ?_
      have := h2 e
      simp only [akF, if_neg e1, if_neg e2, if_neg e3, if_pos hor] at this
      exact this
    · rw [if_neg c1]
      have c0 : c = false := by simpa using c1
      have hor : ¬ (r.kind = 4 ∨ r.kind = 5) := by rw [c0] at hc; simpa using hc.symm
      simp only [v6, if_neg e1, if_neg hor, Bool.or_false] at h1 h2
      refine g13_done h h1 fun e => ?_
      have := h2 e
      simp only [akF, if_neg e1, if_neg e2, if_neg e3, if_neg hor, List.append_nil] at this
      exact this
  refine bs_iff.2 ⟨fun h4 => goJ true (by rw [h4]; rfl), fun h4 => ib_eqq (goJ _ (by rw [h4]; rfl))⟩

theorem g13_ok (he : Sl B H 4 ev (r.ents.map Ent.row)) (hx : r.epoch ≤ 9223372036854775807) (hkl : r.ents.length ≤ 50 ∧ r.key.length ≤ 1000 ∧ r.lo.length ≤ 1000 ∧ r.hi.length ≤ 1000)
    (h1 : akW r = true → ∀ L, Q (.tuple [.nils, .int .i64 1]) (H ++ L)) (h2 : akW r = false → ∀ v L, Bs B (H ++ L) v (akF r) → Q (.tuple [v, .int .i64 0]) (H ++ L)) : Cl B 13 [.agg (r.row ev)] H Q := by
  have hlen : lenOf ev = some r.ents.length := by have := he.len; rwa [List.length_map] at this
  refine f13_in fun n cl hn hcl hH hA => op_box rfl rfl (J13_13_in ?_)
  subst hcl
  refine op_fldP ?_
  rw [peekV (v := .int .i64 r.kind) (i := 0 + 0) (c := r.row ev) (by rw [get_app0]; rfl) rfl, ob_some, pInt_int]
  have eb : IntKind.u8.wrap r.kind = (((fb r.kind).toNat : Nat) : Int) := by
    have h0 : 0 ≤ IntKind.u8.wrap r.kind ∧ IntKind.u8.wrap r.kind < 256 := by rw [IntKind.wrap_u8]; omega
    unfold fb
    rw [UInt8.toNat_ofNat_of_lt' (by show _ < 256; omega)]; omega
  rw [eb, show layParts [(.int .u8 0)] [(0, 1, .int .u8 (((fb r.kind).toNat : Nat) : Int))] = some (brw (fb r.kind)) from rfl, ob_some]
  refine slK_in ?_
  have e1 : (H ++ [AObj.var (r.row ev)]).length = H.length + 1 := by simp
  rw [e1, show layParts [.nils, (.bool false)] [(0, 1, .slice (.new (H.length + 1)) 0 1 1 (some 1))] = some [.slice (.new (H.length + 1)) 0 1 1 (some 1), .bool false] from rfl, ob_some]
  refine op_box rfl rfl ?_
  have e2 : (H ++ [AObj.var (r.row ev)] ++ [AObj.arr (brw (fb r.kind))]).length = H.length + 2 := by simp
  rw [e2]
  have st : Sw B H (H ++ [AObj.var (r.row ev)] ++ [.arr (brw (fb r.kind))] ++ [.var [.slice (.new (H.length + 1)) 0 1 1 (some 1), .bool false]]) (r.row ev) (H.length + 2) [fb r.kind] false := by
    refine ⟨⟨[.var (r.row ev), .arr (brw (fb r.kind)), .var [.slice (.new (H.length + 1)) 0 1 1 (some 1), .bool false]], .slice (.new (H.length + 1)) 0 1 1 (some 1), by simp, ?_, ?_⟩, ?_, by omega⟩
    · show _ = _
      rw [List.append_assoc, List.append_assoc, get_app]; rfl
    · refine ⟨brws_len _, .inr (.inl ⟨_, _, rfl, cellsAt_iff'.2 ⟨brw (fb r.kind), ?_, by simp [brw], rfl⟩⟩)⟩
      simp only [cellsOf]
      rw [get_app]; rfl
    · rw [List.append_assoc, List.append_assoc, get_app0]; rfl
  generalize H ++ [AObj.var (r.row ev)] ++ [.arr (brw (fb r.kind))] ++ [.var [.slice (.new (H.length + 1)) 0 1 1 (some 1), .bool false]] = G at st
  have k0 : ∀ c : Bool, c = !(v0 r) → Cl B 25 [wp (H.length + 2), .bool c] G fun v G' => pLive v fun _ => J13_11 B (Cl B) n (wp H.length) (wp (H.length + 2)) G' Q := fun c hc => st.must fun G1 st1 _ => by
   subst hc
   rw [Bool.not_not, Bool.false_or] at st1
   have k1 : ∀ c : Bool, c = !(v1 r) → Cl B 25 [wp (H.length + 2), .bool c] G1 fun v G' => pLive v fun _ => J13_10 B (Cl B) n (wp H.length) (wp (H.length + 2)) G' Q := fun c hc => st1.must fun G2 st2 _ => by
    subst hc
    rw [Bool.not_not] at st2
    have k2 : ∀ c : Bool, c = !(v2 r) → Cl B 25 [wp (H.length + 2), .bool c] G2 fun v G' => pLive v fun _ => J13_9 B (Cl B) n (wp H.length) (wp (H.length + 2)) G' Q := fun c hc => st2.must fun G3 st3 _ => by
      subst hc
      rw [Bool.not_not] at st3
      have k3 : ∀ c : Bool, c = !(v3 r) → Cl B 25 [wp (H.length + 2), .bool c] G3 fun v G' => pLive v fun _ => J13_8 B (Cl B) n (wp H.length) (wp (H.length + 2)) G' Q := fun c hc => st3.must fun G4 st4 _ => by
        subst hc
        rw [Bool.not_not] at st4
        have k4 : ∀ c : Bool, c = !(v4 r) → Cl B 25 [wp (H.length + 2), .bool c] G4 fun v G' => pLive v fun _ => J13_7 B (Cl B) n (wp H.length) (wp (H.length + 2)) G' Q := fun c hc => st4.must fun G5 st5 _ => by
          subst hc
          rw [Bool.not_not] at st5
          refine J13_7_in (st5.fld (v := .str r.key) (off := 2) rfl fun p => ?_)
          rw [p, ob_some, pStr_str]
          refine st5.fld (v := .str r.lo) (off := 3) rfl fun p => ?_
          rw [p, ob_some, pStr_str]
          refine st5.fld (v := .str r.hi) (off := 4) rfl fun p => ?_
          rw [p, ob_some, pStr_str]
          refine ib_le (st5.must fun G6 st6 _ => ?_)
          exact g13_switch st6 he hx hkl h1 h2
        refine J13_8_in (st4.fld (v := .int .i64 r.kind) (off := 0) rfl fun p => ?_)
        rw [p, ob_some, pInt_int]
        refine bs_iff.2 ⟨fun h4 => k4 true (by simp only [v4]; rw [h4]; rfl), fun h4 => st4.fld (v := .int .i64 r.kind) (off := 0) rfl fun p => ?_⟩
        rw [p, ob_some, pInt_int]
        refine bs_iff.2 ⟨fun h5 => k4 true (by simp only [v4]; rw [h5]; simp), fun h5 => st4.fld (v := .int .i64 r.epoch) (off := 5) rfl fun p => ?_⟩
        rw [p, ob_some, pInt_int]
        exact ib_eqq (k4 _ (by simp only [v4]; rw [h4, h5]; simp))
      refine J13_9_in (st3.fld (v := .int .i64 r.kind) (off := 0) rfl fun p => ?_)
      rw [p, ob_some, pInt_int]
      refine bs_iff.2 ⟨fun h3 => k3 true (by simp only [v3]; rw [h3]; rfl), fun h3 => st3.fld (v := .str r.lo) (off := 3) rfl fun p => ?_⟩
      rw [p, ob_some, pStr_str, pStr_str]
      refine bs_iff.2 ⟨fun hl => st3.fld (v := .str r.hi) (off := 4) rfl fun p => ?_, fun hl => k3 false (by simp only [v3]; rw [h3, hl]; rfl)⟩
      rw [p, ob_some, pStr_str, pStr_str]
      exact bool_split (K := fun v => Cl B 25 [wp (H.length + 2), v] G3 fun v G' => pLive v fun _ => J13_8 B (Cl B) n (wp H.length) (wp (H.length + 2)) G' Q) (k3 _ (by simp only [v3]; rw [h3, hl]; simp))
    refine J13_10_in (st2.fld (v := .int .i64 r.kind) (off := 0) rfl fun p => ?_)
    rw [p, ob_some, pInt_int]
    refine bs_iff.2 ⟨fun h3 => k2 true (by simp only [v2]; rw [h3]; rfl), fun h3 => st2.fld (v := .str r.key) (off := 2) rfl fun p => ?_⟩
    rw [p, ob_some, pStr_str, pStr_str]
    exact bool_split (K := fun v => Cl B 25 [wp (H.length + 2), v] G2 fun v G' => pLive v fun _ => J13_9 B (Cl B) n (wp H.length) (wp (H.length + 2)) G' Q) (k2 _ (by simp only [v2]; rw [h3]; simp))
   refine J13_11_in (st1.fld (v := .int .i64 r.kind) (off := 0) rfl fun p => ?_)
   rw [p, ob_some, pInt_int]
   refine bs_iff.2 ⟨fun h3 => k1 true (by simp only [v1]; rw [h3]; rfl), fun h3 => st1.fld (v := ev) (off := 1) rfl fun p => ?_⟩
   rw [p, ob_some]
   refine Sl.live he _ ?_
   rw [hlen, ob_some]
   refine ib_eqq (k1 _ ?_)
   simp only [v1]
   rw [h3]
   cases r.ents with
   | nil => rfl
   | cons a b => simp; omega
  refine J13_12_in (st.fld (v := .int .i64 r.kind) (off := 0) rfl fun p => ?_)
  rw [p, ob_some, pInt_int]
  refine bs_iff.2 ⟨fun h3 => st.fld (v := .int .i64 r.kind) (off := 0) rfl fun p => ?_, fun h3 => k0 false (by simp only [v0]; rw [h3]; rfl)⟩
  rw [p, ob_some, pInt_int]
  exact ib_le (k0 _ (by simp only [v0]; rw [h3]; simp))
end

end Go.Am

/- The document's functions: entries, requests compared. -/
namespace Go.Am
open Go

section
variable {B : Base} {n : Nat} {H G : Heap} {Q : AV → Heap → Prop} {e : Ent}

theorem f64_ok (hr : entR e = true) (h : Q (.str (entB e)) H) : Cl B 64 [.agg e.row] H Q := by
  refine f64_in fun n cl hn hcl hH hA => op_box rfl rfl (J64_4_in ?_)
  subst hcl
  obtain ⟨l1, l2, l3, l4⟩ := entR_len hr
  have g0 : (H ++ [AObj.var e.row])[H.length]? = some (.var e.row) := by rw [get_app0]; rfl
  have p : ∀ {M : Heap} {i : Nat} {v : AV}, e.row[i]? = some v → peek B (H ++ [AObj.var e.row] ++ M) (.ptr (some (.new H.length, i))) = some v := fun {M i v} hv => peekV (c := e.row) (get_pre g0) hv
  have p0 : ∀ {i : Nat} {v : AV}, e.row[i]? = some v → peek B (H ++ [AObj.var e.row]) (.ptr (some (.new H.length, i))) = some v := fun {i v} hv => peekV (c := e.row) g0 hv
  rw [peekVN g0 (n := 4) rfl, ob_some]
  refine f63_ok (tyK_bool (J64_3_in ?_))
  rw [pBool_bool, hr, bs_true]
  refine J64_2_in (op_fldP ?_)
  rw [p0 (v := .bool e.del) (i := 0 + 2) rfl, ob_some]
  have es : IntKind.u64.wrap e.seq = ((e.seq.toNat : Nat) : Int) := by
    simp only [IntKind.wrap, IntKind.bits, IntKind.signed]
    simp; omega
  have ps := putF_small e.seq.toNat (by omega)
  have pk := putF_small e.key.length (by omega)
  refine tyK_bool (J64_0_in ?_)
  rw [pBool_bool]
  by_cases hd : e.del = true
  · rw [if_pos hd]
    refine op_fldP ?_
    rw [p0 (v := .int .i64 e.seq) (i := 0 + 3) rfl, ob_some, pInt_int]
    refine op_fldP ?_
    rw [p0 (v := .str e.key) (i := 0 + 0) rfl, ob_some, pStr_str, show layParts [(.int .u8 0)] [(0, 1, .int .u8 1)] = some (brw 1) from rfl, ob_some]
    refine slK_in ⟨?_, op_fldP rfl, rfl, ?_, op_fldP rfl, op_toStr (s := [1]) (sl_row1 rfl) ?_⟩
    · rw [p (v := .str e.key) (i := 0 + 0) rfl, ob_some, pStr_str]
    · rw [p (v := .int .i64 e.seq) (i := 0 + 3) rfl, ob_some, pInt_int]
    rw [es]
    refine f66_ok (by omega) (by simp) ?_
    rw [pStr_str]
    refine ⟨?_, op_fldP rfl, ?_⟩
    · rw [p (v := .str e.key) (i := 0 + 0) rfl, ob_some, pStr_str]
    refine f65_ok (by simp; omega) (by omega) ?_
    rw [pStr_str]
    refine tidy_drop2 hn hH low_str ?_
    have : entB e = [1] ++ putF e.seq.toNat ++ putF e.key.length ++ e.key := by simp [entB, hd]
    rw [← this]; exact h
  · rw [if_neg hd]
    have hd0 : e.del = false := by simpa using hd
    refine J64_1_in (op_fldP ?_)
    rw [p0 (v := .int .i64 e.seq) (i := 0 + 3) rfl, ob_some, pInt_int]
    refine op_fldP ?_
    rw [p0 (v := .str e.key) (i := 0 + 0) rfl, ob_some, pStr_str]
    refine op_fldP ?_
    rw [p0 (v := .str e.value) (i := 0 + 1) rfl, ob_some, pStr_str, show layParts [(.int .u8 0)] [(0, 1, .int .u8 0)] = some (brw 0) from rfl, ob_some]
    refine slK_in ⟨?_, op_fldP rfl, ?_, op_fldP rfl, rfl, ?_, op_fldP rfl, op_toStr (s := [0]) (sl_row1 rfl) ?_⟩
    · rw [p (v := .str e.value) (i := 0 + 1) rfl, ob_some, pStr_str]
    · rw [p (v := .str e.key) (i := 0 + 0) rfl, ob_some, pStr_str]
    · rw [p (v := .int .i64 e.seq) (i := 0 + 3) rfl, ob_some, pInt_int]
    rw [es]
    refine f66_ok (by omega) (by simp) ?_
    rw [pStr_str]
    refine ⟨?_, op_fldP rfl, ?_, op_fldP rfl, ?_⟩
    · rw [p (v := .str e.value) (i := 0 + 1) rfl, ob_some, pStr_str]
    · rw [p (v := .str e.key) (i := 0 + 0) rfl, ob_some, pStr_str]
    refine f65_ok (by simp; omega) (by omega) ?_
    rw [pStr_str]
    refine ⟨?_, op_fldP rfl, ?_⟩
    · rw [p (v := .str e.value) (i := 0 + 1) rfl, ob_some, pStr_str]
    refine f65_ok (by simp; omega) (by omega) ?_
    rw [pStr_str]
    refine tidy_drop2 hn hH low_str ?_
    have : entB e = [0] ++ putF e.seq.toNat ++ putF e.key.length ++ e.key ++ putF e.value.length ++ e.value := by simp [entB, hd0]
    rw [← this]; exact h

theorem f31_loop {l : List Ent} {ev : AV} {s : List UInt8} (he : Sl B H 4 ev (l.map Ent.row)) (hsz : l.length ≤ 50)
    (h1 : entsW l = false → Q (.tuple [.str (s ++ entsB l), .bool true]) H) (h2 : entsW l = true → ∀ s', Q (.tuple [.str s', .bool false]) H) :
    ∀ (rest : List Ent) (i : Nat) (acc : List UInt8), l.drop i = rest → acc ++ entsB rest = s ++ entsB l → entsW rest = entsW l → acc.length ≤ 10000 + 2000 * i → L31_4 B (Cl B) n (.str acc) ev (i : Int) H Q
  | [], i, acc, hd, ha, hw, hal => by
    have hl := drop_nil hd
    have hlen : lenOf ev = some l.length := by have := he.len; rwa [List.length_map] at this
    refine L31_4_in (ACall.cle B table) ?_
    rw [hlen, ob_some]
    refine bs_dec (fun h1 => by omega) fun _ => J31_5_in (tidy_none ?_)
    have := h1 hw.symm
    rw [← ha] at this
    simpa [entsB] using this
  | e :: r, i, acc, hd, ha, hw, hal => by
    obtain ⟨hget, hlt, hd'⟩ := drop_cons hd
    have hlen : lenOf ev = some l.length := by have := he.len; rwa [List.length_map] at this
    have hrow : (l.map Ent.row)[i]? = some e.row := by simp [hget]
    refine L31_4_in (ACall.cle B table) ?_
    rw [hlen, ob_some]
    refine bs_dec (fun _ => J31_3_in (op_idx he (by simpa using hlt) ?_)) fun h1 => absurd (by omega) h1
    rw [(he.el hrow).peekN (n := 4) rfl, ob_some]
    refine f63_ok (tyK_bool (J31_1_in ?_))
    rw [pBool_bool]
    refine bs_iff.2 ⟨fun hr => J31_0_in (op_idx he (by simpa using hlt) ?_), fun hr => tidy_none (h2 ?_ _)⟩
    · rw [(he.el hrow).peekN (n := 4) rfl, ob_some]
      refine f64_ok hr ?_
      rw [pStr_str, pStr_str]
      have hel := @entB_len e
      rw [if_pos hr] at hel
      refine sb_add (by simp [maxInt]; omega) (J31_2_in ?_)
      rw [w64 (n := (i : Int) + 1) (by omega)]
      refine f31_loop he hsz h1 h2 r (i + 1) _ hd' ?_ ?_ ?_
      · rw [← ha]; simp [entsB, hr]
      · rw [← hw]; simp [entsW, hr]
      · rw [List.length_append]; omega
    · rw [← hw]; simp [entsW, hr]
theorem f31_ok {l : List Ent} {ev : AV} {s : List UInt8} (he : Sl B H 4 ev (l.map Ent.row)) (hsz : l.length ≤ 50) (hs : s.length ≤ 1000)
    (h1 : entsW l = false → Q (.tuple [.str (s ++ putF l.length ++ entsB l), .bool true]) H) (h2 : entsW l = true → ∀ s', Q (.tuple [.str s', .bool false]) H) : Cl B 31 [.str s, ev] H Q := by
  refine f31_in fun n cl hn hcl hH hA => J31_6_in ?_
  subst hcl
  have hlen : lenOf ev = some l.length := by have := he.len; rwa [List.length_map] at this
  have hp := putF_small l.length (by omega)
  rw [hlen, ob_some]
  refine f34_ok (by omega) (by omega) ?_
  rw [pStr_str]
  exact f31_loop (s := s ++ putF l.length) he hsz h1 h2 l 0 _ rfl (by simp) rfl (by simp; omega)

/-! ### Lists of entries compared -/
theorem ent_eq (a b : Ent) : cellsEq [(0, .str), (1, .str), (2, .bool), (3, (.int .i64))] a.row b.row = some (decide (a = b)) := by
  obtain ⟨k1, v1, d1, s1⟩ := a
  obtain ⟨k2, v2, d2, s2⟩ := b
  simp only [cellsEq, Ent.row, List.getElem?_cons_zero, List.getElem?_cons_succ, cellEq, if_true]
  by_cases h1 : k1 = k2
  · by_cases h2 : v1 = v2
    · by_cases h3 : d1 = d2
      · by_cases h4 : s1 = s2
        · simp [h1, h2, h3, h4]
        · simp [h1, h2, h3, h4, beq_eq_false_iff_ne.2 h4]
      · simp [h1, h2, h3, beq_eq_false_iff_ne.2 h3]
    · simp [h1, h2, beq_eq_false_iff_ne.2 h2]
  · simp [h1, beq_eq_false_iff_ne.2 h1]
theorem f35_ok {us ws : List Ent} {x y : AV} (ha : Sl B H 4 x (us.map Ent.row)) (hb : Sl B H 4 y (ws.map Ent.row)) (hsz : us.length ≤ 1000) (h : Q (.bool (decide (us = ws))) H) : Cl B 35 [x, y] H Q := by
  refine f35_in fun n cl hn hcl hH hA => ?_
  subst hcl
  have hla : lenOf x = some us.length := by have := ha.len; rwa [List.length_map] at this
  have hlb : lenOf y = some ws.length := by have := hb.len; rwa [List.length_map] at this
  rw [hla, ob_some, hlb, ob_some]
  by_cases hl : us.length = ws.length
  · refine bs_no (by simp [hl]) ?_
    have go : ∀ (ra rb : List Ent) (i : Nat), us.drop i = ra → ws.drop i = rb → decide (ra = rb) = decide (us = ws) → L35_0 B (Cl B) n x y (i : Int) H Q := fun ra => by
      induction ra with
      | nil =>
        intro rb i h1 h2 h3
        have hi := drop_nil h1
        refine L35_0_in (ACall.cle B table) ?_
        rw [hla, ob_some]
        refine bs_dec (fun h => by omega) fun _ => J35_1_in (tidy_none ?_)
        have : rb = [] := by rw [← h2]; exact List.drop_eq_nil_of_le (by omega)
        subst this
        rw [← h3] at h; exact h
      | cons a r ih =>
        intro rb i h1 h2 h3
        obtain ⟨g1, lt1, d1⟩ := drop_cons h1
        obtain ⟨b, r2, rfl⟩ : ∃ b r2, rb = b :: r2 := by
          cases rb with
          | nil => have := drop_nil h2; omega
          | cons b r2 => exact ⟨b, r2, rfl⟩
        obtain ⟨g2, lt2, d2⟩ := drop_cons h2
        have r1 : (us.map Ent.row)[i]? = some a.row := by simp [g1]
        have r2' : (ws.map Ent.row)[i]? = some b.row := by simp [g2]
        refine L35_0_in (ACall.cle B table) ?_
        rw [hla, ob_some]
        refine bs_dec (fun _ => op_idx ha (by simpa using lt1) ?_) fun h => absurd (by omega) h
        rw [(ha.el r1).peekN (n := 4) rfl, ob_some]
        refine op_idx hb (by simpa using lt2) ?_
        rw [(hb.el r2').peekN (n := 4) rfl, ob_some]
        have ae : ∀ K : AV → Heap → Prop, K (.bool (!decide (a = b))) H → aop B E0 H K (.aeq true 4 [(0, .str), (1, .str), (2, .bool), (3, (.int .i64))] (.const (.agg a.row)) (.const (.agg b.row))) := fun K hK => by
          simp only [aop, opK, Opd.look, ob_some, ent_eq]
          rw [if_pos ⟨rfl, rfl⟩]
          exact bool_split (K := fun v => K v H) hK
        refine ae _ ?_
        rw [pBool_bool]
        by_cases hab : a = b
        · rw [if_neg (by simp [hab]), w64 (n := (i : Int) + 1) (by omega)]
          refine ih r2 (i + 1) d1 d2 ?_
          rw [← h3, hab]; simp
        · rw [if_pos (by simp [hab])]
          refine tidy_none ?_
          have : decide (us = ws) = false := by rw [← h3]; simp [hab]
          rw [← this]; exact h
    exact go us ws 0 rfl rfl rfl
  · refine bs_yes (by simp; omega) (tidy_none ?_)
    have : decide (us = ws) = false := by simp; intro e; exact hl (by rw [e])
    rw [← this]; exact h

def sameRq (a b : Rq) : Bool := decide (a.ents = b.ents) && (a.kind == b.kind && (a.key == b.key && (a.lo == b.lo && (a.hi == b.hi && a.epoch == b.epoch))))
theorem f15_ok {a b : Rq} {x y : AV} (ha : Sl B H 4 x (a.ents.map Ent.row)) (hb : Sl B H 4 y (b.ents.map Ent.row)) (hsz : a.ents.length ≤ 1000) (h : Q (.bool (sameRq a b)) H) : Cl B 15 [.agg (a.row x), .agg (b.row y)] H Q := by
  refine f15_in fun n cl hn hcl hH hA => op_box rfl rfl (op_box rfl rfl (J15_1_in ?_))
  subst hcl
  generalize hG : H ++ [AObj.var (a.row x)] ++ [AObj.var (b.row y)] = G
  have e1 : (H ++ [AObj.var (a.row x)]).length = H.length + 1 := by simp
  rw [e1]
  have ga : G[H.length]? = some (.var (a.row x)) := by rw [← hG, List.append_assoc, get_app0]; rfl
  have gb : G[H.length + 1]? = some (.var (b.row y)) := by rw [← hG, List.append_assoc, get_app]; rfl
  have pa : ∀ {i : Nat} {v : AV}, (a.row x)[i]? = some v → peek B G (.ptr (some (.new H.length, i))) = some v := fun {i v} hv => peekV ga hv
  have pb : ∀ {i : Nat} {v : AV}, (b.row y)[i]? = some v → peek B G (.ptr (some (.new (H.length + 1), i))) = some v := fun {i v} hv => peekV gb hv
  have fin : ∀ c : Bool, c = sameRq a b → tidyK n Q (.bool c) G := fun c hc => by
    subst hc; rw [← hG, List.append_assoc]; exact tidy_drop hn hH low_bool h
  have ha' : Sl B G 4 x (a.ents.map Ent.row) := by rw [← hG, List.append_assoc]; exact ha.pre
  have hb' : Sl B G 4 y (b.ents.map Ent.row) := by rw [← hG, List.append_assoc]; exact hb.pre
  refine op_fldP ?_
  rw [pa (v := x) (i := 0 + 1) rfl, ob_some]
  refine Sl.live ha _ (op_fldP ?_)
  rw [pb (v := y) (i := 0 + 1) rfl, ob_some]
  refine Sl.live hb _ (f35_ok ha' hb' hsz (tyK_bool (J15_0_in ?_)))
  refine guard_split (fun h0 => op_fldP ?_) fun h0 => fin false (by simp only [sameRq]; rw [h0]; rfl)
  rw [pa (v := .int .i64 a.kind) (i := 0 + 0) rfl, ob_some, pInt_int]
  refine op_fldP ?_
  rw [pb (v := .int .i64 b.kind) (i := 0 + 0) rfl, ob_some, pInt_int]
  refine bs_iff.2 ⟨fun h1 => op_fldP ?_, fun h1 => fin false (by simp only [sameRq]; rw [h0, h1]; rfl)⟩
  rw [pa (v := .str a.key) (i := 0 + 2) rfl, ob_some, pStr_str]
  refine op_fldP ?_
  rw [pb (v := .str b.key) (i := 0 + 2) rfl, ob_some, pStr_str]
  refine bs_iff.2 ⟨fun h2 => op_fldP ?_, fun h2 => fin false (by simp only [sameRq]; rw [h0, h1, h2]; rfl)⟩
  rw [pa (v := .str a.lo) (i := 0 + 3) rfl, ob_some, pStr_str]
  refine op_fldP ?_
  rw [pb (v := .str b.lo) (i := 0 + 3) rfl, ob_some, pStr_str]
  refine bs_iff.2 ⟨fun h3 => op_fldP ?_, fun h3 => fin false (by simp only [sameRq]; rw [h0, h1, h2, h3]; rfl)⟩
  rw [pa (v := .str a.hi) (i := 0 + 4) rfl, ob_some, pStr_str]
  refine op_fldP ?_
  rw [pb (v := .str b.hi) (i := 0 + 4) rfl, ob_some, pStr_str]
  refine bs_iff.2 ⟨fun h4 => op_fldP ?_, fun h4 => fin false (by simp only [sameRq]; rw [h0, h1, h2, h3, h4]; rfl)⟩
  rw [pa (v := .int .i64 a.epoch) (i := 0 + 5) rfl, ob_some, pInt_int]
  refine op_fldP ?_
  rw [pb (v := .int .i64 b.epoch) (i := 0 + 5) rfl, ob_some, pInt_int]
  exact ib_eqq (fin _ (by simp only [sameRq]; rw [h0, h1, h2, h3, h4]; rfl))
end

end Go.Am

/- The document's Ask: what it answers. -/
namespace Go.Am
open Go

def onlyR (r : Rq) : Rq := if r.kind = 1 then ⟨r.kind, r.ents, [], [], [], 0⟩ else if r.kind = 2 then ⟨r.kind, [], r.key, [], [], 0⟩ else if r.kind = 3 then ⟨r.kind, [], [], r.lo, r.hi, 0⟩ else if r.kind = 4 ∨ r.kind = 5 then ⟨r.kind, [], [], [], [], r.epoch⟩ else ⟨r.kind, [], [], [], [], 0⟩
def okR (r : Rq) : Bool := if r.kind = 1 then !entsW r.ents && (decide ((r.ents.length : Int) ≥ 1) && decide ((r.ents.length : Int) ≤ 32)) else if r.kind = 2 then decide ((r.key.length : Int) ≤ 128) else if r.kind = 3 then decide ((r.lo.length : Int) ≤ 128) && decide ((r.hi.length : Int) ≤ 128) else if r.kind = 4 ∨ r.kind = 5 then numOk r.epoch else decide (r.kind = 6)
def refOK (r : Rq) : Bool := okR r && sameRq (onlyR r) r
theorem max3 (a b c : Int) : maxInts a [b, c] ≤ 128 ↔ a ≤ 128 ∧ b ≤ 128 ∧ c ≤ 128 := by
  simp only [maxInts]
  split <;> split <;> omega
theorem ref_ok (r : Rq) : refOK r = !akW r := by
  have hp : ∀ l : List Ent, (([] : List Ent) = l) = (l = []) := fun l => propext eq_comm
  have hs : ∀ l : List UInt8, (([] : List UInt8) = l) = (l = []) := fun l => propext eq_comm
  have hi : ∀ x : Int, ((0 : Int) = x) = (x = 0) := fun l => propext eq_comm
  rw [Bool.eq_iff_iff]
  obtain ⟨kind, ents, key, lo, hi', epoch⟩ := r
  have ek : kind = 1 ∨ kind = 2 ∨ kind = 3 ∨ kind = 4 ∨ kind = 5 ∨ kind = 6 ∨ ((kind < 1 ∨ 6 < kind) ∧ kind ≠ 1 ∧ kind ≠ 2 ∧ kind ≠ 3 ∧ kind ≠ 4 ∧ kind ≠ 5 ∧ kind ≠ 6) := by omega
  rcases ek with rfl | rfl | rfl | rfl | rfl | rfl | ⟨h0, h1, h2, h3, h4, h5, h6⟩
  · simp [refOK, okR, sameRq, onlyR, akW, v0, v1, v2, v3, v4, v5, v6, max3, hs, hi]
    constructor
    · intro ⟨⟨a, b, c⟩, h1, h2, h3, h4⟩
      subst h1; subst h2; subst h3; subst h4
      exact ⟨⟨⟨⟨rfl, rfl, rfl⟩, rfl⟩, by simp, by simp, by simp⟩, ⟨by omega, c⟩, a⟩
    · intro ⟨⟨⟨⟨h1, h2, h3⟩, h4⟩, _⟩, ⟨a, b⟩, c⟩
      exact ⟨⟨c, by omega, b⟩, h1, h2, h3, h4⟩
  · simp [refOK, okR, sameRq, onlyR, akW, v0, v1, v2, v3, v4, v5, v6, max3, hs, hi]
    constructor
    · intro ⟨a, h1, h2, h3, h4⟩
      subst h2; subst h3
      exact ⟨⟨⟨h1, rfl, rfl⟩, h4⟩, a, by simp, by simp⟩
    · intro ⟨⟨⟨h1, h2, h3⟩, h4⟩, a, _⟩
      exact ⟨a, h1, h2, h3, h4⟩
  · simp [refOK, okR, sameRq, onlyR, akW, v0, v1, v2, v3, v4, v5, v6, max3, hs, hi]
    constructor
    · intro ⟨⟨a, b⟩, h1, h2, h4⟩
      subst h2
      exact ⟨⟨⟨h1, rfl⟩, h4⟩, by simp, a, b⟩
    · intro ⟨⟨⟨h1, h2⟩, h4⟩, _, a, b⟩
      exact ⟨⟨a, b⟩, h1, h2, h4⟩
  · simp [refOK, okR, sameRq, onlyR, akW, v0, v1, v2, v3, v4, v5, v6, max3, hs, hi]
    constructor
    · intro ⟨a, h1, h2, h3, h4⟩
      subst h2; subst h3; subst h4
      exact ⟨⟨⟨⟨h1, rfl⟩, rfl, rfl⟩, by simp, by simp, by simp⟩, a⟩
    · intro ⟨⟨⟨⟨h1, h2⟩, h3, h4⟩, _⟩, a⟩
      exact ⟨a, h1, h2, h3, h4⟩
  · simp [refOK, okR, sameRq, onlyR, akW, v0, v1, v2, v3, v4, v5, v6, max3, hs, hi]
    constructor
    · intro ⟨a, h1, h2, h3, h4⟩
      subst h2; subst h3; subst h4
      exact ⟨⟨⟨⟨h1, rfl⟩, rfl, rfl⟩, by simp, by simp, by simp⟩, a⟩
    · intro ⟨⟨⟨⟨h1, h2⟩, h3, h4⟩, _⟩, a⟩
      exact ⟨a, h1, h2, h3, h4⟩
  · simp [refOK, okR, sameRq, onlyR, akW, v0, v1, v2, v3, v4, v5, v6, max3, hs, hi]
    constructor
    · intro ⟨h1, h2, h3, h4, h5⟩
      subst h2; subst h3; subst h4
      exact ⟨⟨⟨⟨h1, rfl⟩, rfl, rfl⟩, h5⟩, by simp, by simp, by simp⟩
    · intro ⟨⟨⟨⟨h1, h2⟩, h3, h4⟩, h5⟩, _⟩
      exact ⟨h1, h2, h3, h4, h5⟩
  · simp [refOK, okR, sameRq, onlyR, akW, v0, v1, v2, v3, v4, v5, v6, max3, hs, hi, h1, h2, h3, h4, h5, h6]
    intro a b
    omega


/-- The document's first byte. -/
theorem and7 (x : Int) : ∃ k : Nat, k ≤ 7 ∧ bitsOp .and IntKind.i64 x 7 = k := by
  refine ⟨(BitVec.ofInt 64 x &&& BitVec.ofInt 64 7).toNat, ?_, ?_⟩
  · rw [BitVec.toNat_and]
    exact Nat.and_le_right
  · show IntKind.i64.wrap ((BitVec.ofInt 64 x &&& BitVec.ofInt 64 7).toNat : Int) = _
    have : (BitVec.ofInt 64 x &&& BitVec.ofInt 64 7).toNat ≤ 7 := by
      rw [BitVec.toNat_and]
      exact Nat.and_le_right
    exact w64 (by omega)
def fb7 (k : Int) : UInt8 := UInt8.ofNat (bitsOp .and IntKind.i64 k 7).toNat
theorem fb7_cell (k : Int) : IntKind.u8.wrap (bitsOp .and IntKind.i64 k 7) = (((fb7 k).toNat : Nat) : Int) := by
  obtain ⟨m, hm, e⟩ := and7 k
  unfold fb7
  rw [e, IntWalk.u8_in _ (by omega), UInt8.toNat_ofNat_of_lt' (by show _ < 256; omega)]; omega
theorem fb_same : ∀ k : Fin 7, fb7 ((k.val : Nat) : Int) = fb ((k.val : Nat) : Int) := by decide +kernel
theorem fb_eq {k : Int} (h : 1 ≤ k ∧ k ≤ 6) : fb7 k = fb k := by
  have := fb_same ⟨k.toNat, by omega⟩
  simp only at this
  rwa [show ((k.toNat : Nat) : Int) = k from by omega] at this

section
variable {B : Base} {n : Nat} {H G : Heap} {Q : AV → Heap → Prop} {r : Rq} {ev : AV}

/-- Memory while the document's Ask runs. -/
structure Sr (B : Base) (H G : Heap) (r : Rq) (ev : AV) (o : List AV) : Prop where
  pre : ∃ L, G = H ++ L
  req : G[H.length]? = some (.var (r.row ev))
  only : G[H.length + 1]? = some (.var o)
abbrev op1 (H : Heap) : AV := .ptr (some (.new (H.length + 1), 0))
theorem Sr.fld {o : List AV} {v : AV} {off : Nat} {K : AV → Heap → Prop} (h : Sr B H G r ev o) (hv : (r.row ev)[off]? = some v) (hk : peek B G (.ptr (some (.new H.length, off))) = some v → K (.ptr (some (.new H.length, off))) G) : aop B E0 G K (.fieldPtr off (.const (wp H.length))) := by
  refine op_fldP ?_
  rw [Nat.zero_add]
  exact hk (peekV h.req hv)
theorem Sr.put {o o2 : List AV} {v : AV} {off : Nat} {K : Heap → Prop} (h : Sr B H G r ev o) (hv : v.cells? = some [v]) (hl : off + 1 ≤ o.length) (ho : putAt o off [v] = o2) (hk : ∀ G', Sr B H G' r ev o2 → K G') :
    aop B E0 G (fun p _ => aop B E0 G (fun _ G' => K G') (.st 1 (.const p) (.const v))) (.fieldPtr off (.const (op1 H))) := by
  subst ho
  refine op_fldP (op_st hv rfl h.only (by rw [Nat.zero_add]; exact hl) (hk _ ⟨?_, ?_, ?_⟩))
  · obtain ⟨L, rfl⟩ := h.pre
    exact ⟨L.set 1 _, set_app 1 _⟩
  · rw [get_set_ne (by omega)]; exact h.req
  · rw [Nat.zero_add]; exact get_set (lt_of_get h.only)

theorem r14_end {o : Rq} {ov : AV} {s : List UInt8} {ok : Bool} (h : Sr B H G r ev (o.row ov)) (he : Sl B H 4 ev (r.ents.map Ent.row)) (ho : Sl B H 4 ov (o.ents.map Ent.row)) (hsz : o.ents.length ≤ 1000)
    (h1 : (ok && sameRq o r) = true → tidyK n Q (.tuple [.str s, .int .i64 0]) G) (h2 : (ok && sameRq o r) = false → tidyK n Q (.tuple [.str [], .int .i64 1]) G) : J14_15 B (Cl B) n (wp H.length) (op1 H) (.str s) (.bool ok) G Q := by
  refine J14_15_in ?_
  rw [peekVN h.only (n := 6) rfl, ob_some, peekVN h.req (n := 6) rfl, ob_some]
  obtain ⟨L, rfl⟩ := h.pre
  refine f15_ok ho.pre he.pre hsz (tyK_bool (J14_14_in ?_))
  rw [pBool_bool]
  refine bs_iff.2 ⟨fun e1 => ?_, fun e1 => h2 (by rw [e1]; rfl)⟩
  rw [pBool_bool]
  exact bs_iff.2 ⟨fun e2 => J14_13_in (h1 (by rw [e1, e2]; rfl)), fun e2 => h2 (by rw [e1, e2]; rfl)⟩
end

end Go.Am

/- The document's Ask, walked. -/
namespace Go.Am
open Go

section
variable {B : Base} {n : Nat} {H G : Heap} {Q : AV → Heap → Prop} {r : Rq} {ev : AV}

theorem kind_in (h : akW r = false) : 1 ≤ r.kind ∧ r.kind ≤ 6 := by
  simp only [akW, Bool.or_eq_false_iff] at h
  have := h.1.1.1.1.1.1
  simp only [v0] at this
  simp at this
  omega

theorem r14_ok (he : Sl B H 4 ev (r.ents.map Ent.row)) (hx : r.epoch ≤ 9223372036854775807) (hkl : r.ents.length ≤ 50 ∧ r.key.length ≤ 1000 ∧ r.lo.length ≤ 1000 ∧ r.hi.length ≤ 1000)
    (h1 : akW r = false → Q (.tuple [.str (akF r), .int .i64 0]) H) (h2 : akW r = true → Q (.tuple [.str [], .int .i64 1]) H) : Cl B 14 [.agg (r.row ev)] H Q := by
  have hlen : lenOf ev = some r.ents.length := by have := he.len; rwa [List.length_map] at this
  refine f14_in fun n cl hn hcl hH hA => op_box rfl rfl (J14_19_in ?_)
  subst hcl
  have hg0 : (H ++ [AObj.var (r.row ev)])[H.length]? = some (.var (r.row ev)) := by rw [get_app0]; rfl
  refine op_fldP ?_
  rw [peekV hg0 (v := .int .i64 r.kind) (i := 0 + 0) rfl, ob_some, pInt_int, show layParts _ [(0, 1, .int .i64 r.kind)] = some ((Rq.mk r.kind [] [] [] [] 0).row .nils) from rfl, ob_some]
  refine op_alloc (op_st_last rfl rfl ?_)
  have e1 : (H ++ [AObj.var (r.row ev)]).length = H.length + 1 := by simp
  rw [e1]
  have st : Sr B H (H ++ [AObj.var (r.row ev)] ++ [.var ((Rq.mk r.kind [] [] [] [] 0).row .nils)]) r ev ((Rq.mk r.kind [] [] [] [] 0).row .nils) := by
    refine ⟨⟨[.var (r.row ev), .var ((Rq.mk r.kind [] [] [] [] 0).row .nils)], by simp⟩, get_pre hg0, ?_⟩
    rw [List.append_assoc, get_app]; rfl
  generalize H ++ [AObj.var (r.row ev)] ++ [.var ((Rq.mk r.kind [] [] [] [] 0).row .nils)] = G at st
  refine J14_18_in (st.fld (v := .int .i64 r.kind) (off := 0) rfl fun p => ?_)
  rw [p, ob_some, pInt_int, fb7_cell, show layParts [(.int .u8 0)] [(0, 1, .int .u8 (((fb7 r.kind).toNat : Nat) : Int))] = some (brw (fb7 r.kind)) from rfl, ob_some]
  refine slK_in (op_toStr (s := [fb7 r.kind]) (sl_row1 rfl) (J14_17_in (J14_16_in ?_)))
  have st : Sr B H (G ++ [.arr (brw (fb7 r.kind))]) r ev ((Rq.mk r.kind [] [] [] [] 0).row .nils) := by
    obtain ⟨⟨L, hL⟩, s1, s2⟩ := st
    exact ⟨⟨L ++ [.arr (brw (fb7 r.kind))], by rw [hL, List.append_assoc]⟩, get_pre s1, get_pre s2⟩
  generalize G ++ [.arr (brw (fb7 r.kind))] = G at st
  have nl : ∀ {G : Heap}, Sl B G 4 .nils (([] : List Ent).map Ent.row) := fun {G} => ⟨fun r hr => by simp at hr, .inl ⟨rfl, rfl⟩⟩
  have fin : ∀ {G' : Heap} {o : List AV} {ok : Bool} {only : Rq} {s : List UInt8}, Sr B H G' r ev o → only = onlyR r → ok = okR r → s = [fb7 r.kind] ++ (akF r).drop 1 → ((ok && sameRq only r) = true → tidyK n Q (.tuple [.str s, .int .i64 0]) G') ∧ ((ok && sameRq only r) = false → tidyK n Q (.tuple [.str [], .int .i64 1]) G') := fun {G' o ok only s} hs ho hok hsd => by
    obtain ⟨L, rfl⟩ := hs.pre
    subst ho hok hsd
    have e := ref_ok r
    unfold refOK at e
    refine ⟨fun h => ?_, fun h => ?_⟩
    · rw [e] at h
      have hw : akW r = false := by simpa using h
      have := h1 hw
      rw [fb_eq (kind_in hw)]
      have e2 : [fb r.kind] ++ (akF r).drop 1 = akF r := rfl
      rw [e2]
      exact tidy_drop hn hH ⟨by simp [RV], by simp [RV], rfl⟩ this
    · rw [e] at h
      have hw : akW r = true := by simpa using h
      exact tidy_drop hn hH ⟨by simp [RV], by simp [RV], rfl⟩ (h2 hw)
  have bad : ∀ {G' : Heap} {o : List AV}, Sr B H G' r ev o → okR r = false → tidyK n Q (.tuple [.str [], .int .i64 1]) G' := fun {G' o} hs hok => by
    obtain ⟨L, rfl⟩ := hs.pre
    have e := ref_ok r
    unfold refOK at e
    rw [hok, Bool.false_and] at e
    have hw : akW r = true := by simpa using e.symm
    exact tidy_drop hn hH ⟨by simp [RV], by simp [RV], rfl⟩ (h2 hw)
  refine st.fld (v := .int .i64 r.kind) (off := 0) rfl fun p => ?_
  rw [p, ob_some, pInt_int]
  refine J14_12_in ?_
  by_cases k1 : r.kind = 1
  · refine ib_eq_yes k1 (J14_11_in ?_)
    rw [pBool_bool, if_pos rfl]
    refine st.fld (v := ev) (off := 1) rfl fun p => ?_
    rw [p, ob_some]
    refine Sl.live he _ ?_
    have hce : ev.cells? = some [ev] := by
      obtain ⟨_, ⟨rfl, _⟩ | ⟨o, off, cap, rfl, _⟩⟩ := he <;> rfl
    refine st.put (off := 1) (o2 := (Rq.mk r.kind r.ents [] [] [] 0).row ev) hce (by simp [Rq.row]) rfl fun G1 st1 => J14_1_in (st1.fld (v := ev) (off := 1) rfl fun p => ?_)
    rw [p, ob_some]
    refine Sl.live he _ ?_
    obtain ⟨L1, hL1⟩ := st1.pre
    have he1 : Sl B G1 4 ev (r.ents.map Ent.row) := by rw [hL1]; exact he.pre
    have honly : Rq.mk r.kind r.ents [] [] [] 0 = onlyR r := by simp [onlyR, k1]
    have ext : ∀ {K : AV → AV → Prop} {s : List UInt8} {b : Bool}, K (.str s) (.bool b) → pLive (.tuple [.str s, .bool b]) fun v => aop B E0 G1 (fun x _ => aop B E0 G1 (fun y _ => K x y) (.extract (some .bool) 1 (.const v))) (.extract (some .str) 0 (.const v)) := fun {K s b} hK => by
      show pStr (.str s) fun x => pBool (.bool b) fun z => bs z (K (.str x) (.bool true)) (K (.str x) (.bool false))
      rw [pStr_str, pBool_bool]
      cases b <;> exact hK
    refine f31_ok he1 hkl.1 (by simp) (fun hw => ext (J14_0_in ?_)) fun hw s' => ext (J14_0_in ?_)
    · rw [pGuard_bool, bs_true]
      have goE : ∀ c : Bool, c = (decide ((r.ents.length : Int) ≥ 1) && decide ((r.ents.length : Int) ≤ 32)) → J14_15 B (Cl B) n (wp H.length) (op1 H) (.str ([fb7 r.kind] ++ putF r.ents.length ++ entsB r.ents)) (.bool c) G1 Q := fun c hc => by
        have hok : c = okR r := by simp [okR, k1, hw, hc]
        obtain ⟨f1, f2⟩ := fin (only := Rq.mk r.kind r.ents [] [] [] 0) (s := [fb7 r.kind] ++ putF r.ents.length ++ entsB r.ents) st1 honly hok (by simp [akF, k1])
        exact r14_end (o := Rq.mk r.kind r.ents [] [] [] 0) st1 he he (show r.ents.length ≤ 1000 by omega) f1 f2
      refine st1.fld (v := ev) (off := 1) rfl fun p => ?_
      rw [p, ob_some]
      refine Sl.live he _ ?_
      rw [hlen, ob_some]
      refine bs_iff.2 ⟨fun h3 => st1.fld (v := ev) (off := 1) rfl fun p => ?_, fun h3 => goE false (by rw [h3]; rfl)⟩
      rw [p, ob_some]
      refine Sl.live he _ ?_
      rw [hlen, ob_some]
      exact ib_le (goE _ (by rw [h3]; rfl))
    · rw [pGuard_bool, bs_false]
      have hok : okR r = false := by simp [okR, k1, hw]
      exact r14_end (o := Rq.mk r.kind r.ents [] [] [] 0) st1 he he (show r.ents.length ≤ 1000 by omega) (fun e => by simp at e) fun _ => bad st1 hok
  refine ib_eq_no k1 (J14_11_in ?_)
  rw [pBool_bool, if_neg (by simp)]
  by_cases k2 : r.kind = 2
  · refine ib_eq_yes k2 (J14_10_in ?_)
    rw [pBool_bool, if_pos rfl]
    refine st.fld (v := .str r.key) (off := 2) rfl fun p => ?_
    rw [p, ob_some, pStr_str]
    refine st.put (off := 2) (o2 := (Rq.mk r.kind [] r.key [] [] 0).row .nils) rfl (by simp [Rq.row]) rfl fun G1 st1 => J14_2_in (st1.fld (v := .str r.key) (off := 2) rfl fun p => ?_)
    rw [p, ob_some, pStr_str]
    refine f32_ok (by simp) (by omega) ?_
    rw [pStr_str]
    refine st1.fld (v := .str r.key) (off := 2) rfl fun p => ?_
    rw [p, ob_some, pStr_str]
    refine ib_le ?_
    obtain ⟨f1, f2⟩ := fin (only := Rq.mk r.kind [] r.key [] [] 0) (s := [fb7 r.kind] ++ putF r.key.length ++ r.key) (ok := decide ((r.key.length : Int) ≤ 128)) st1 (by simp [onlyR, k1, k2]) (by simp [okR, k1, k2]) (by simp [akF, k1, k2])
    exact r14_end (o := Rq.mk r.kind [] r.key [] [] 0) st1 he nl (by simp) f1 f2
  refine ib_eq_no k2 (J14_10_in ?_)
  rw [pBool_bool, if_neg (by simp)]
  by_cases k3 : r.kind = 3
  · refine ib_eq_yes k3 (J14_9_in ?_)
    rw [pBool_bool, if_pos rfl]
    refine st.fld (v := .str r.lo) (off := 3) rfl fun p => ?_
    rw [p, ob_some, pStr_str]
    refine st.put (off := 3) (o2 := (Rq.mk r.kind [] [] r.lo [] 0).row .nils) rfl (by simp [Rq.row]) rfl fun G1 st1 => J14_5_in (st1.fld (v := .str r.hi) (off := 4) rfl fun p => ?_)
    rw [p, ob_some, pStr_str]
    refine st1.put (off := 4) (o2 := (Rq.mk r.kind [] [] r.lo r.hi 0).row .nils) rfl (by simp [Rq.row]) rfl fun G2 st2 => J14_4_in (st2.fld (v := .str r.lo) (off := 3) rfl fun p => ?_)
    rw [p, ob_some, pStr_str]
    refine st2.fld (v := .str r.hi) (off := 4) rfl fun p4 => ?_
    rw [p4, ob_some, pStr_str]
    refine f32_ok (by simp) (by omega) ?_
    rw [pStr_str]
    have pl := putF_small r.lo.length (by omega)
    refine ⟨?_, op_fldP (by rw [Nat.zero_add]), ?_⟩
    · rw [p4, ob_some, pStr_str]
    refine f32_ok (by simp; omega) (by omega) ?_
    rw [pStr_str]
    have goS : ∀ c : Bool, c = (decide ((r.lo.length : Int) ≤ 128) && decide ((r.hi.length : Int) ≤ 128)) → J14_15 B (Cl B) n (wp H.length) (op1 H) (.str ([fb7 r.kind] ++ putF r.lo.length ++ r.lo ++ putF r.hi.length ++ r.hi)) (.bool c) G2 Q := fun c hc => by
      obtain ⟨f1, f2⟩ := fin (only := Rq.mk r.kind [] [] r.lo r.hi 0) (s := [fb7 r.kind] ++ putF r.lo.length ++ r.lo ++ putF r.hi.length ++ r.hi) (ok := c) st2 (by simp [onlyR, k1, k2, k3]) (by simp [okR, k1, k2, k3, hc]) (by simp [akF, k1, k2, k3])
      exact r14_end (o := Rq.mk r.kind [] [] r.lo r.hi 0) st2 he nl (by simp) f1 f2
    refine J14_3_in (st2.fld (v := .str r.lo) (off := 3) rfl fun p => ?_)
    rw [p, ob_some, pStr_str]
    refine bs_iff.2 ⟨fun h3 => st2.fld (v := .str r.hi) (off := 4) rfl fun p => ?_, fun h3 => goS false (by rw [h3]; rfl)⟩
    rw [p, ob_some, pStr_str]
    exact ib_le (goS _ (by rw [h3]; rfl))
  refine ib_eq_no k3 (J14_9_in ?_)
  rw [pBool_bool, if_neg (by simp)]
  have go45 : r.kind = 4 ∨ r.kind = 5 → J14_8 B (Cl B) n (wp H.length) (op1 H) (.str [fb7 r.kind]) true r.kind (.bool true) G Q := fun k45 => by
    refine J14_8_in ?_
    rw [pBool_bool, if_pos rfl]
    refine st.fld (v := .int .i64 r.epoch) (off := 5) rfl fun p => ?_
    rw [p, ob_some, pInt_int]
    refine st.put (off := 5) (o2 := (Rq.mk r.kind [] [] [] [] r.epoch).row .nils) rfl (by simp [Rq.row]) rfl fun G1 st1 => J14_7_in (st1.fld (v := .int .i64 r.epoch) (off := 5) rfl fun p => ?_)
    rw [p, ob_some, pInt_int]
    refine f33_ok ?_
    rw [pBool_bool]
    refine bs_iff.2 ⟨fun h3 => J14_6_in (st1.fld (v := .int .i64 r.epoch) (off := 5) rfl fun p => ?_), fun h3 => bad st1 (by simp [okR, k1, k2, k3, k45, h3])⟩
    rw [p, ob_some, pInt_int]
    have hnum : 0 ≤ r.epoch ∧ r.epoch ≤ 1099511627776 := by simpa [numOk] using h3
    refine f34_ok (by simp) (by omega) ?_
    rw [pStr_str]
    obtain ⟨f1, f2⟩ := fin (only := Rq.mk r.kind [] [] [] [] r.epoch) (s := [fb7 r.kind] ++ putF r.epoch.toNat) (ok := true) st1 (by simp [onlyR, k1, k2, k3, k45]) (by simp [okR, k1, k2, k3, k45, h3]) (by simp [akF, k1, k2, k3, k45])
    exact r14_end (o := Rq.mk r.kind [] [] [] [] r.epoch) st1 he nl (by simp) f1 f2
  refine bs_iff.2 ⟨fun h3 => go45 (.inl (by simpa using h3)), fun h3 => ?_⟩
  by_cases k5 : r.kind = 5
  · exact ib_eq_yes k5 (go45 (.inr k5))
  refine ib_eq_no k5 (J14_8_in ?_)
  rw [pBool_bool, if_neg (by simp)]
  have k4 : ¬ r.kind = 4 := by simpa using h3
  have go6 : ∀ c : Bool, c = decide (r.kind = 6) → J14_15 B (Cl B) n (wp H.length) (op1 H) (.str [fb7 r.kind]) (.bool c) G Q := fun c hc => by
    obtain ⟨f1, f2⟩ := fin (only := Rq.mk r.kind [] [] [] [] 0) (s := [fb7 r.kind]) (ok := c) st (by simp [onlyR, k1, k2, k3, k4, k5]) (by simp [okR, k1, k2, k3, k4, k5, hc]) (by simp [akF, k1, k2, k3, k4, k5])
    exact r14_end (o := Rq.mk r.kind [] [] [] [] 0) st he nl (by simp) f1 f2
  refine bs_iff.2 ⟨fun h6 => go6 true (by simpa using h6), fun h6 => go6 false (by simpa using h6)⟩
end

end Go.Am

/- The law's own functions: entries and requests of at most some bytes. -/
namespace Go.Am
open Go

def cutE (e : Ent) : Ent := ⟨e.key.take 130, e.value.take 1030, e.del, e.seq⟩
def cutR (r : Rq) : Rq := ⟨r.kind, (r.ents.take 40).map cutE, r.key.take 200, r.lo.take 200, r.hi.take 200, r.epoch⟩

section
variable {B : Base} {n : Nat} {H G : Heap} {Q : AV → Heap → Prop}

theorem op_cutS {s : List UInt8} {m : Nat} {K : AV → Heap → Prop} (h : K (.str (s.take m)) G) : aop B E0 G K (.sliceS (.const (.str s)) none (some (.const (.int .i64 (minInts ((s.length : Nat) : Int) [(m : Int)]))))) := by
  have e : minInts ((s.length : Nat) : Int) [(m : Int)] = ((min s.length m : Nat) : Int) := by
    simp only [minInts]; split <;> omega
  rw [e]
  simp only [aop, opK, Opd.look, ob_some, pStr_str, optK, pAny_int]
  rw [if_pos ⟨by omega, by omega, by omega⟩]
  have e2 : (s.drop (0 : Int).toNat).take (((min s.length m : Nat) : Int).toNat - (0 : Int).toNat) = s.take m := by
    simp only [Int.toNat_zero, List.drop_zero, Nat.sub_zero, Int.toNat_natCast]
    rcases Nat.le_total s.length m with h1 | h1
    · rw [Nat.min_eq_left h1, List.take_length, List.take_of_length_le h1]
    · rw [Nat.min_eq_right h1]
  rw [e2]; exact h
theorem ents_flat (l : List Ent) : flatO (growO (l.map Ent.row)) := by
  unfold growO
  split
  · trivial
  · have : ∀ l : List Ent, Ones (l.map Ent.row).flatten ∧ LowL 0 (l.map Ent.row).flatten := fun l => by
      induction l with
      | nil => exact ⟨fun v hv => by simp at hv, rfl⟩
      | cons e r ih =>
        refine ⟨fun v hv => ?_, ?_⟩
        · simp only [List.map_cons, List.flatten_cons, Ent.row, List.mem_append, List.mem_cons, List.not_mem_nil, or_false] at hv
          rcases hv with (rfl | rfl | rfl | rfl) | hv
          · rfl
          · rfl
          · rfl
          · rfl
          · exact ih.1 v hv
        · exact ⟨rfl, rfl, rfl, rfl, ih.2⟩
    exact this l

theorem f24_loop {l : List Ent} {ev : AV} (hn : n = H.length) (hH : LowH n H) (hv : Low n ev) (he : Sl B H 4 ev (l.map Ent.row))
    (h : Q (growV H.length 4 (((l.take 40).map cutE).map Ent.row)) (H ++ [growO (((l.take 40).map cutE).map Ent.row)])) :
    ∀ (rest : List Ent) (i : Nat) (acc : List Ent), (l.take 40).drop i = rest → acc ++ rest.map cutE = (l.take 40).map cutE → acc.length = i → i ≤ 40 →
      L24_4 B (Cl B) n ev 40 (growV H.length 4 (acc.map Ent.row)) (i : Int) (H ++ [growO (acc.map Ent.row)]) Q
  | [], i, acc, hd, ha, hal, hi => by
    have hl := drop_nil hd
    simp only [List.length_take] at hl
    have hlen : lenOf ev = some l.length := by have := he.len; rwa [List.length_map] at this
    simp only [List.map_nil, List.append_nil] at ha
    rw [← ha] at h
    refine L24_4_in (ACall.cle B table) ?_
    rw [hlen, ob_some]
    refine bs_dec (fun h1 => ?_) fun _ => J24_5_in (tidy_none h)
    exact bs_dec (fun h2 => by omega) fun _ => J24_5_in (tidy_none h)
  | e :: r, i, acc, hd, ha, hal, hi => by
    obtain ⟨hget, hlt, hd'⟩ := drop_cons hd
    simp only [List.length_take] at hlt
    have hget' : l[i]? = some e := by rw [List.getElem?_take] at hget; split at hget; exact hget; cases hget
    have hlen : lenOf ev = some l.length := by have := he.len; rwa [List.length_map] at this
    have hrow : (l.map Ent.row)[i]? = some e.row := by simp [hget']
    generalize hG : H ++ [growO (acc.map Ent.row)] = G
    have hGl : G.length = H.length + 1 := by rw [← hG]; simp
    have hs : Sl B G 4 ev (l.map Ent.row) := by rw [← hG]; exact he.pre
    refine L24_4_in (ACall.cle B table) ?_
    rw [hlen, ob_some]
    refine bs_dec (fun _ => ?_) fun h1 => by omega
    refine bs_dec (fun _ => ?_) fun h1 => by omega
    refine J24_3_in (op_idx hs (by rw [List.length_map]; omega) ?_)
    rw [(hs.el hrow).peekN (n := 4) rfl, ob_some]
    refine op_alloc (op_st_last rfl rfl ?_)
    rw [hGl]
    have gv : ∀ x : Ent, (G ++ [AObj.var x.row])[H.length + 1]? = some (.var x.row) := fun x => by rw [← hGl, get_app0]; rfl
    have sv : ∀ x y : Ent, (G ++ [AObj.var x.row]).set (H.length + 1) (.var y.row) = G ++ [AObj.var y.row] := fun x y => by rw [← hGl, set_app0]; rfl
    refine J24_2_in (op_fldP ?_)
    rw [peekV (gv e) (v := .str e.key) (i := 0 + 0) rfl, ob_some, pStr_str]
    refine op_fldP ?_
    rw [peekV (gv e) (v := .str e.key) (i := 0 + 0) rfl, ob_some, pStr_str]
    refine op_cutS (m := 130) (op_fldP ?_)
    refine op_st (vs := [.str (e.key.take 130)]) (c := e.row) rfl rfl (gv e) (by simp [Ent.row]) ?_
    let e1 : Ent := ⟨e.key.take 130, e.value, e.del, e.seq⟩
    rw [show putAt e.row (0 + 0) [.str (e.key.take 130)] = e1.row from rfl, sv e e1]
    refine J24_1_in (op_fldP ?_)
    rw [peekV (gv e1) (v := .str e.value) (i := 0 + 1) rfl, ob_some, pStr_str]
    refine op_fldP ?_
    rw [peekV (gv e1) (v := .str e.value) (i := 0 + 1) rfl, ob_some, pStr_str]
    refine op_cutS (m := 1030) (op_fldP ?_)
    refine op_st (vs := [.str (e.value.take 1030)]) (c := e1.row) rfl rfl (gv e1) (by simp [Ent.row]) ?_
    rw [show putAt e1.row (0 + 1) [.str (e.value.take 1030)] = (cutE e).row from rfl, sv e1 (cutE e)]
    refine J24_0_in ?_
    rw [peekVN (gv (cutE e)) (n := 4) rfl, ob_some, lay_row (n := 4) (by rfl) (by rfl), ob_some]
    refine slK_in (op_appendW (k := H.length) (rows1 := acc.map Ent.row) (by rw [← hG, List.append_assoc, List.append_assoc, get_app0]; rfl) (ents_len acc) (sl_row1 rfl) (by simp) (by simp [maxBytes]; omega) ?_)
    have ee : acc.map Ent.row ++ [(cutE e).row] = (acc ++ [cutE e]).map Ent.row := by simp
    have e2 : (G ++ [AObj.var (cutE e).row] ++ [AObj.arr (cutE e).row]).set H.length .gone ++ [growO ((acc ++ [cutE e]).map Ent.row)]
        = H ++ [.gone, .var (cutE e).row, .arr (cutE e).row, growO ((acc ++ [cutE e]).map Ent.row)] := by
      rw [← hG, List.append_assoc, List.append_assoc, set_app0]; simp
    have e3 : (G ++ [AObj.var (cutE e).row] ++ [AObj.arr (cutE e).row]).length = H.length + 3 := by rw [← hG]; simp
    rw [ee, e2, e3, w64 (n := (i : Int) + 1) (by omega)]
    refine L24_4_tidy (y0 := ev) (y5 := growV H.length 4 ((acc ++ [cutE e]).map Ent.row)) (sel1 (a := 3) hn hH rfl (ents_flat _)) (low_pick (by subst hn; simp) hv) (growV_rv ?_ (by simp))
      (f24_loop hn hH hv he h r (i + 1) (acc ++ [cutE e]) hd' (by simpa using ha) (by simp [hal]) (by omega))
    rw [← hn, pick_at0]
theorem f24_ok {l : List Ent} {ev : AV} (he : Sl B H 4 ev (l.map Ent.row))
    (h : Q (growV H.length 4 (((l.take 40).map cutE).map Ent.row)) (H ++ [growO (((l.take 40).map cutE).map Ent.row)])) : Cl B 24 [ev, .int .i64 40] H Q := by
  refine f24_in fun n cl hn hcl hH hA => ?_
  subst hcl
  refine L24_4_tidy (H2 := H ++ [.gone]) (y0 := ev) (y5 := .nils) (f := pick n fun j => j) ?_ (low_pick (by subst hn; simp) hA.1) rfl (by
    have := f24_loop hn hH hA.1 he h (l.take 40) 0 [] rfl rfl rfl (by omega)
    simpa [growV, growO] using this)
  have := Cln.pick (L := []) (L2 := [.gone]) hn hH (fun j => j) (fun _ _ _ _ h => h) (fun j o2 hj => .inl (by
    cases j with
    | zero => simp at hj; exact hj.symm
    | succ j => simp at hj))
  rwa [List.append_nil] at this

theorem f12_ok {r : Rq} {ev : AV} (he : Sl B H 4 ev (r.ents.map Ent.row)) (h : ∀ ev' L, Sl B (H ++ L) 4 ev' ((cutR r).ents.map Ent.row) → Q (.agg ((cutR r).row ev')) (H ++ L)) : Cl B 12 [.agg (r.row ev)] H Q := by
  refine f12_in fun n cl hn hcl hH hA => op_box rfl rfl (op_alloc ?_)
  subst hcl
  have e1 : (H ++ [AObj.var (r.row ev)]).length = H.length + 1 := by simp
  rw [e1]
  have z : List AV := [.int .i64 0, .nils, .str [], .str [], .str [], .int .i64 0]
  -- memory: the request, the result, the entries
  let M : List AV → Heap → Heap := fun c L => H ++ ([AObj.var c, AObj.var [.int .i64 0, .nils, .str [], .str [], .str [], .int .i64 0]] ++ L)
  have g0 : ∀ c L, (M c L)[H.length]? = some (.var c) := fun c L => by show (H ++ _)[H.length]? = _; rw [get_app0]; rfl
  have s0 : ∀ c c2 L, (M c L).set H.length (.var c2) = M c2 L := fun c c2 L => by show (H ++ _).set H.length _ = _; rw [set_app0]; rfl
  have hM : H ++ [AObj.var (r.row ev)] ++ [.var [.int .i64 0, .nils, .str [], .str [], .str [], .int .i64 0]] = M (r.row ev) [] := by simp [M]
  rw [hM]
  have heM : Sl B (M (r.row ev) []) 4 ev (r.ents.map Ent.row) := he.pre
  refine J12_3_in (op_fldP ?_)
  rw [peekV (g0 _ _) (v := ev) (i := 0 + 1) rfl, ob_some]
  refine Sl.live he _ (f24_ok heM ?_)
  generalize hE : growO (((r.ents.take 40).map cutE).map Ent.row) = E
  have hsl : ∀ G : Heap, G[H.length + 2]? = some E → Sl B G 4 (growV (M (r.row ev) []).length 4 (((r.ents.take 40).map cutE).map Ent.row)) ((cutR r).ents.map Ent.row) := fun G hg => by
    refine growV_sl ?_ (ents_len _)
    have : (M (r.row ev) []).length = H.length + 2 := by simp [M]
    rw [this, hg, ← hE]
  have gE : ∀ c, (M c [E])[H.length + 2]? = some E := fun c => by show (H ++ _)[H.length + 2]? = _; rw [get_app]; rfl
  have hM2 : M (r.row ev) [] ++ [E] = M (r.row ev) [E] := by simp [M]
  rw [hM2]
  generalize growV (M (r.row ev) []).length 4 (((r.ents.take 40).map cutE).map Ent.row) = ev' at hsl
  refine Sl.live (hsl _ (gE (r.row ev))) _ (op_fldP ?_)
  have hce : ev'.cells? = some [ev'] := by
    obtain ⟨_, ⟨rfl, _⟩ | ⟨o, off, cap, rfl, _⟩⟩ := hsl _ (gE (r.row ev)) <;> rfl
  refine op_st (vs := [ev']) (c := r.row ev) hce rfl (g0 _ _) (by simp [Rq.row]) ?_
  let c1 : List AV := [.int .i64 r.kind, ev', .str r.key, .str r.lo, .str r.hi, .int .i64 r.epoch]
  rw [show putAt (r.row ev) (0 + 1) [ev'] = c1 from rfl, s0]
  refine J12_2_in (op_fldP ?_)
  rw [peekV (g0 _ _) (v := .str r.key) (i := 0 + 2) rfl, ob_some, pStr_str]
  refine op_fldP ?_
  rw [peekV (g0 _ _) (v := .str r.key) (i := 0 + 2) rfl, ob_some, pStr_str]
  refine op_cutS (m := 200) (op_fldP (op_st (vs := [.str (r.key.take 200)]) (c := c1) rfl rfl (g0 _ _) (by simp [c1]) ?_))
  let c2 : List AV := [.int .i64 r.kind, ev', .str (r.key.take 200), .str r.lo, .str r.hi, .int .i64 r.epoch]
  rw [show putAt c1 (0 + 2) [.str (r.key.take 200)] = c2 from rfl, s0]
  refine J12_1_in (op_fldP ?_)
  rw [peekV (g0 _ _) (v := .str r.lo) (i := 0 + 3) rfl, ob_some, pStr_str]
  refine op_fldP ?_
  rw [peekV (g0 _ _) (v := .str r.lo) (i := 0 + 3) rfl, ob_some, pStr_str]
  refine op_cutS (m := 200) (op_fldP (op_st (vs := [.str (r.lo.take 200)]) (c := c2) rfl rfl (g0 _ _) (by simp [c2]) ?_))
  let c3 : List AV := [.int .i64 r.kind, ev', .str (r.key.take 200), .str (r.lo.take 200), .str r.hi, .int .i64 r.epoch]
  rw [show putAt c2 (0 + 3) [.str (r.lo.take 200)] = c3 from rfl, s0]
  refine J12_0_in (op_fldP ?_)
  rw [peekV (g0 _ _) (v := .str r.hi) (i := 0 + 4) rfl, ob_some, pStr_str]
  refine op_fldP ?_
  rw [peekV (g0 _ _) (v := .str r.hi) (i := 0 + 4) rfl, ob_some, pStr_str]
  refine op_cutS (m := 200) (op_fldP (op_st (vs := [.str (r.hi.take 200)]) (c := c3) rfl rfl (g0 _ _) (by simp [c3]) ?_))
  rw [show putAt c3 (0 + 4) [.str (r.hi.take 200)] = (cutR r).row ev' from rfl, s0, peekVN (g0 _ _) (n := 6) rfl, ob_some]
  have g1 : ∀ c L, (M c L)[H.length + 1]? = some (.var [.int .i64 0, .nils, .str [], .str [], .str [], .int .i64 0]) := fun c L => by show (H ++ _)[H.length + 1]? = _; rw [get_app]; rfl
  refine op_st (vs := (cutR r).row ev') rfl rfl (g1 _ _) (by simp [Rq.row]) ?_
  rw [putAt_all (by rfl), peekVN (get_set (lt_of_get (g1 _ _))) (n := 6) rfl, ob_some]
  refine tidy_none ?_
  have es : (M ((cutR r).row ev') [E]).set (H.length + 1) (.var ((cutR r).row ev')) = H ++ [AObj.var ((cutR r).row ev'), .var ((cutR r).row ev'), E] := by
    show (H ++ _).set (H.length + 1) _ = _
    rw [set_app]; rfl
  rw [es]
  exact h _ _ (hsl _ (by rw [get_app]; rfl))
end

end Go.Am

/- The law WireAsks, walked. -/
namespace Go.Am
open Go

section
variable {B : Base} {n : Nat} {H G : Heap} {Q : AV → Heap → Prop}

theorem sameRq_self (r : Rq) : sameRq r r = true := by simp [sameRq]
theorem cutR_len (r : Rq) : (cutR r).ents.length ≤ 50 ∧ (cutR r).key.length ≤ 1000 ∧ (cutR r).lo.length ≤ 1000 ∧ (cutR r).hi.length ≤ 1000 := by
  simp only [cutR, List.length_map, List.length_take]; omega

theorem f3_ok {r : Rq} {ev : AV} (he : Sl B H 4 ev (r.ents.map Ent.row)) (hx : r.epoch ≤ 9223372036854775807) (h : Q (.bool true) H) : Cl B 3 [.agg (r.row ev)] H Q := by
  refine f3_in fun n cl hn hcl hH hA => op_box rfl rfl ?_
  subst hcl
  have fin : ∀ L, tidyK n Q (.bool true) (H ++ L) := fun L => tidy_drop hn hH low_bool h
  generalize hH1 : H ++ [AObj.var (r.row ev)] = H1
  have g1 : ∀ {L}, (H1 ++ L)[H.length]? = some (.var (r.row ev)) := fun {L} => by rw [← hH1, List.append_assoc, get_app0]; rfl
  have he1 : ∀ {L}, Sl B (H1 ++ L) 4 ev (r.ents.map Ent.row) := fun {L} => by rw [← hH1, List.append_assoc]; exact he.pre
  have g10 : H1[H.length]? = some (.var (r.row ev)) := by have := g1 (L := []); rwa [List.append_nil] at this
  have he10 : Sl B H1 4 ev (r.ents.map Ent.row) := by have := he1 (L := []); rwa [List.append_nil] at this
  have hx' : (cutR r).epoch ≤ 9223372036854775807 := hx
  refine J3_5_in (f11_ok (tyK_bool (J3_4_in ?_)))
  rw [peekVN g10 (n := 6) rfl, ob_some]
  refine f12_ok he10 fun ev1 L1 he2 => ?_
  have lag : ∀ {c : List AV} {K : AV → Prop}, K (.agg c) → pLive (.agg c) K := fun {c K} hK => hK
  refine lag (op_alloc (op_st_last rfl rfl (J3_3_in ?_)))
  generalize hH2 : H1 ++ L1 ++ [AObj.var ((cutR r).row ev1)] = H2
  have gown : ∀ {L}, (H2 ++ L)[(H1 ++ L1).length]? = some (.var ((cutR r).row ev1)) := fun {L} => by rw [← hH2, List.append_assoc, get_app0]; rfl
  have gown0 : H2[(H1 ++ L1).length]? = some (.var ((cutR r).row ev1)) := by have := gown (L := []); rwa [List.append_nil] at this
  have he3 : ∀ {L}, Sl B (H2 ++ L) 4 ev1 ((cutR r).ents.map Ent.row) := fun {L} => by rw [← hH2, List.append_assoc]; exact he2.pre
  have he30 : Sl B H2 4 ev1 ((cutR r).ents.map Ent.row) := by have := he3 (L := []); rwa [List.append_nil] at this
  have g2 : ∀ {L}, (H2 ++ L)[H.length]? = some (.var (r.row ev)) := fun {L} => by rw [← hH2, List.append_assoc, List.append_assoc]; exact g1
  have he2r : ∀ {L}, Sl B (H2 ++ L) 4 ev (r.ents.map Ent.row) := fun {L} => by rw [← hH2, List.append_assoc, List.append_assoc]; exact he1
  have hHL : ∃ M, H2 = H ++ M := ⟨[AObj.var (r.row ev)] ++ (L1 ++ [AObj.var ((cutR r).row ev1)]), by rw [← hH2, ← hH1]; simp⟩
  obtain ⟨M, hM⟩ := hHL
  rw [peekVN gown0 (n := 6) rfl, ob_some]
  -- from the program's answer on
  have rest : ∀ (v : AV) (L2 : Heap) (e : Int) (s : List UInt8), (∀ K : AV → Prop, K v → pLive v K) → Bs B (H2 ++ L2) v s → (akW (cutR r) = false → e = 0 ∧ s = akF (cutR r)) → (akW (cutR r) = true → e = 1 ∧ s = []) →
      pLive (.tuple [v, .int .i64 e]) fun v17 => aop B E0 (H2 ++ L2) (fun x _ => aop B E0 (H2 ++ L2) (fun y _ => J3_2 B (Cl B) n (wp H.length) (.bool true) (.ptr (some (.new (H1 ++ L1).length, 0))) x y (H2 ++ L2) Q) (.extract (some (.int .i64)) 1 (.const v17))) (.extract (some .other) 0 (.const v17)) := fun v L2 e s hv hb hw0 hw1 => by
    refine op_ext2 hv (J3_2_in ?_)
    rw [peekVN g2 (n := 6) rfl, ob_some]
    refine f12_ok he2r fun ev2 L3 he4 => lag ?_
    have tail : ∀ (s' : List UInt8) (e' : Int), s' = s → e' = e → pLive (.tuple [.str s', .int .i64 e']) fun v26 => aop B E0 (H2 ++ L2 ++ L3) (fun x _ => aop B E0 (H2 ++ L2 ++ L3) (fun y _ => J3_1 B (Cl B) n (wp H.length) (.bool true) (.ptr (some (.new (H1 ++ L1).length, 0))) v (.int .i64 e) x y (H2 ++ L2 ++ L3) Q) (.extract (some (.int .i64)) 1 (.const v26))) (.extract (some .str) 0 (.const v26)) := fun s' e' hs' he' => by
      subst hs' he'
      have ext : ∀ {K : AV → AV → Prop}, K (.str s') (.int .i64 e') → pLive (.tuple [.str s', .int .i64 e']) fun v => aop B E0 (H2 ++ L2 ++ L3) (fun x _ => aop B E0 (H2 ++ L2 ++ L3) (fun y _ => K x y) (.extract (some (.int .i64)) 1 (.const v))) (.extract (some .str) 0 (.const v)) := fun {K} hK => by
        show pStr (.str s') fun x => pInt .i64 (.int .i64 e') fun y => K (.str x) (.int .i64 y)
        rw [pStr_str, pInt_int]; exact hK
      refine ext (J3_1_in ?_)
      have ga : (H2 ++ L2 ++ L3)[(H1 ++ L1).length]? = some (.var ((cutR r).row ev1)) := by rw [List.append_assoc]; exact gown
      have gr : (H2 ++ L2 ++ L3)[H.length]? = some (.var (r.row ev)) := by rw [List.append_assoc]; exact g2
      have hr : Sl B (H2 ++ L2 ++ L3) 4 ev (r.ents.map Ent.row) := by rw [List.append_assoc]; exact he2r
      rw [peekVN ga (n := 6) rfl, ob_some, peekVN gr (n := 6) rfl, ob_some]
      refine f12_ok hr fun ev3 L4 he5 => lag ⟨?_, ?_⟩
      · rw [peekVN (get_pre ga) (n := 6) rfl, ob_some]
      have he6 : Sl B (H2 ++ L2 ++ L3 ++ L4) 4 ev1 ((cutR r).ents.map Ent.row) := by rw [List.append_assoc, List.append_assoc]; exact he3
      refine f15_ok he6 he5 (by have := (cutR_len r).1; omega) (tyK_bool (J3_0_in ?_))
      rw [sameRq_self, pGuard_bool, bs_true]
      refine op_toStr hb.pre.pre ?_
      rw [pStr_str, pStr_str]
      refine bs_yes (by simp) ?_
      rw [pInt_int, pInt_int]
      refine bs_yes (by simp) ?_
      have := fin (M ++ L2 ++ L3 ++ L4)
      rw [hM]
      simpa using this
    refine r14_ok he4 hx' (cutR_len r) (fun hw => ?_) fun hw => ?_
    · obtain ⟨a, b⟩ := hw0 hw
      exact tail _ _ b.symm a.symm
    · obtain ⟨a, b⟩ := hw1 hw
      exact tail _ _ b.symm a.symm
  refine g13_ok he30 hx' (cutR_len r) (fun hw L2 => ?_) fun hw v L2 hv => ?_
  · exact rest .nils L2 1 [] (fun K hK => hK) Bs.nil (fun e => by rw [hw] at e; cases e) fun _ => ⟨rfl, rfl⟩
  · exact rest v L2 0 (akF (cutR r)) (fun K hK => Sl.live hv K hK) hv (fun _ => ⟨rfl, rfl⟩) fun e => by rw [hw] at e; cases e
end

end Go.Am
