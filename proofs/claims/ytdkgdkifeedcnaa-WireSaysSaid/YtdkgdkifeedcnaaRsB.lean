/- The document's functions: right entries; numbers and texts; entries' bytes. -/
import Derived.Test.YtdkgdkifeedcnaaRpB
import Derived.Test.YtdkgdkifeedcnaaAmW
import Derived.Test.YtdkgdkifeedcnaaProg
namespace Go.Am
open Go

section
variable {B : Base} {n : Nat} {H G : Heap} {Q : AV → Heap → Prop} {e : Ent}

theorem f63_ok (h : Q (.bool (entR e)) H) : Cl B 63 [.agg e.row] H Q := by
  refine f63_in fun n cl hn hcl hH hA => op_box rfl rfl (J63_0_in ?_)
  have p : ∀ {i : Nat} {v : AV}, e.row[i]? = some v → peek B (H ++ [AObj.var e.row]) (.ptr (some (.new H.length, i))) = some v := fun {i v} hv => peekV (c := e.row) (by rw [get_app0]; rfl) hv
  have fin : ∀ b : Bool, b = entR e → tidyK n Q (.bool b) (H ++ [.var e.row]) := fun b hb => by subst hb; exact tidy_drop hn hH low_bool h
  have k0 : (!(e.key == [])) = decide ((e.key.length : Int) ≥ 1) := by
    cases e.key with
    | nil => rfl
    | cons a b => simp; omega
  refine op_fldP ?_
  rw [p (v := .str e.key) (i := 0 + 0) rfl, ob_some, pStr_str]
  refine bs_iff.2 ⟨fun h1 => op_fldP ?_, fun h1 => fin _ (by simp only [entR]; rw [k0, h1]; rfl)⟩
  rw [← k0] at h1
  rw [p (v := .str e.key) (i := 0 + 0) rfl, ob_some, pStr_str]
  refine bs_iff.2 ⟨fun h2 => op_fldP ?_, fun h2 => fin _ (by simp only [entR]; rw [h1, h2]; rfl)⟩
  rw [p (v := .str e.value) (i := 0 + 1) rfl, ob_some, pStr_str]
  refine bs_iff.2 ⟨fun h3 => op_fldP ?_, fun h3 => fin _ (by simp only [entR]; rw [h1, h2, h3]; rfl)⟩
  rw [p (v := .bool e.del) (i := 0 + 2) rfl, ob_some, pBool_bool]
  have tail : (e.del && !(e.value == [])) = false → aop B E0 (H ++ [.var e.row]) (fun v27 _ => ob (peek B (H ++ [.var e.row]) v27) fun c28 => pInt .i64 c28 fun n29 => bs (decide (n29 ≥ 1)) (aop B E0 (H ++ [.var e.row]) (fun v30 _ => ob (peek B (H ++ [.var e.row]) v30) fun c31 => pInt .i64 c31 fun n32 => ibinK .leq .i64 n32 1099511627776 fun v33 => tidyK n Q v33 (H ++ [.var e.row])) (.fieldPtr 3 (.const (.ptr (some (.new H.length, 0)))))) (tidyK n Q (.bool false) (H ++ [.var e.row]))) (.fieldPtr 3 (.const (.ptr (some (.new H.length, 0))))) := fun h4 => by
    refine op_fldP ?_
    rw [p (v := .int .i64 e.seq) (i := 0 + 3) rfl, ob_some, pInt_int]
    refine bs_iff.2 ⟨fun h5 => op_fldP ?_, fun h5 => fin _ (by simp only [entR]; rw [h1, h2, h3, h4, h5]; rfl)⟩
    rw [p (v := .int .i64 e.seq) (i := 0 + 3) rfl, ob_some, pInt_int]
    exact ib_le (fin _ (by simp only [entR]; rw [h1, h2, h3, h4, h5]; rfl))
  refine bs_iff.2 ⟨fun h4 => op_fldP ?_, fun h4 => tail (by rw [h4]; rfl)⟩
  rw [p (v := .str e.value) (i := 0 + 1) rfl, ob_some, pStr_str, pStr_str]
  exact bs_iff.2 ⟨fun h5 => tail (by rw [h4, h5]; rfl), fun h5 => fin _ (by simp only [entR]; rw [h1, h2, h3, h4, h5]; rfl)⟩
theorem mod_byte (x : Nat) : IntKind.u8.wrap (IntKind.u8.wrap (Int.tmod (x : Int) 128) + 128) = (((UInt8.ofNat (x % 128 + 128)).toNat : Nat) : Int) := by
  have e1 : Int.tmod (x : Int) 128 = ((x % 128 : Nat) : Int) := by rw [Int.tmod_eq_emod_of_nonneg (by omega)]; omega
  rw [e1, IntWalk.u8_in ((x % 128 : Nat) : Int) (by omega), IntWalk.u8_in (((x % 128 : Nat) : Int) + 128) (by omega), UInt8.toNat_ofNat_of_lt' (by show _ < 256; omega)]; omega
theorem f66_loop (hn : n = H.length) (hH : LowH n H) (x : Nat) : ∀ (s : List UInt8) (m : Nat) (L : Heap), x < 128 ^ m → x < 18446744073709551616 → s.length + m ≤ 1000000000000 → Q (.str (s ++ putF x)) H → L66_0 B (Cl B) n (.str s) (x : Int) (H ++ L) Q := by
  induction x using Nat.strongRecOn with
  | ind x ih =>
  intro s m L hx h64 hsz h
  rw [putF] at h
  refine L66_0_in (ACall.cle B table) (bs_dec (fun h1 => ?_) fun h1 => J66_1_in ?_)
  · obtain ⟨m, rfl⟩ : ∃ m', m = m' + 1 := by
      cases m with
      | zero => simp at hx; omega
      | succ m => exact ⟨m, rfl⟩
    have hx2 : x / 128 < 128 ^ m := by
      rw [Nat.pow_succ] at hx
      omega
    rw [if_neg (by omega)] at h
    rw [if_neg (by decide), mod_byte, show layParts [(.int .u8 0)] [(0, 1, .int .u8 (((UInt8.ofNat (x % 128 + 128)).toNat : Nat) : Int))] = some (brw (UInt8.ofNat (x % 128 + 128))) from rfl, ob_some]
    refine slK_in (op_toStr (s := [UInt8.ofNat (x % 128 + 128)]) (sl_row1 rfl) ?_)
    rw [pStr_str, pStr_str]
    refine sb_add (by simp [maxInt]; omega) ?_
    have e2 : IntKind.u64.wrap (Int.tdiv (x : Int) 128) = ((x / 128 : Nat) : Int) := by
      have : Int.tdiv (x : Int) 128 = ((x / 128 : Nat) : Int) := by rw [Int.tdiv_eq_ediv_of_nonneg (by omega)]; omega
      rw [this]
      simp only [IntKind.wrap, IntKind.bits, IntKind.signed]
      simp; omega
    rw [if_neg (by decide), e2, List.append_assoc]
    refine ih (x / 128) (by omega) _ m _ hx2 (by omega) (by simp; omega) ?_
    simpa using h
  · rw [if_pos (by omega)] at h
    rw [last_byte (by omega), show layParts [(.int .u8 0)] [(0, 1, .int .u8 (((UInt8.ofNat x).toNat : Nat) : Int))] = some (brw (UInt8.ofNat x)) from rfl, ob_some]
    refine slK_in (op_toStr (s := [UInt8.ofNat x]) (sl_row1 rfl) ?_)
    rw [pStr_str, pStr_str]
    refine sb_add (by simp [maxInt]; omega) ?_
    rw [List.append_assoc]
    exact tidy_drop hn hH low_str h
theorem f66_ok {s : List UInt8} {x : Nat} (hx : x < 18446744073709551616) (hs : s.length ≤ 900000000000) (h : Q (.str (s ++ putF x)) H) : Cl B 66 [.str s, .int .u64 (x : Int)] H Q := by
  refine f66_in fun n cl hn hcl hH hA => ?_
  subst hcl
  have := f66_loop (B := B) (Q := Q) hn hH x s 10 [] (by omega) hx (by omega) h
  rwa [List.append_nil] at this
theorem f65_ok {s t : List UInt8} (hs : s.length ≤ 900000000000) (ht : t.length ≤ 1000000) (h : Q (.str (s ++ putF t.length ++ t)) H) : Cl B 65 [.str s, .str t] H Q := by
  refine f65_in fun n cl hn hcl hH hA => ?_
  subst hcl
  have e : IntKind.u64.wrap ((t.length : Nat) : Int) = ((t.length : Nat) : Int) := by
    simp only [IntKind.wrap, IntKind.bits, IntKind.signed]
    simp; omega
  have hp := putF_small t.length (by omega)
  rw [e]
  refine f66_ok (by omega) hs ?_
  rw [pStr_str]
  exact sb_add (by simp [maxInt]; omega) (tidy_none h)
theorem f32_ok {s t : List UInt8} (hs : s.length ≤ 900000000000) (ht : t.length ≤ 1000000) (h : Q (.str (s ++ putF t.length ++ t)) H) : Cl B 32 [.str s, .str t] H Q := by
  refine f32_in fun n cl hn hcl hH hA => ?_
  subst hcl
  refine f65_ok hs ht ?_
  rw [pStr_str]
  exact tidy_none h
theorem f34_ok {s : List UInt8} {x : Int} (hs : s.length ≤ 900000000000) (hx : 0 ≤ x ∧ x ≤ 9223372036854775807) (h : Q (.str (s ++ putF x.toNat)) H) : Cl B 34 [.str s, .int .i64 x] H Q := by
  refine f34_in fun n cl hn hcl hH hA => ?_
  subst hcl
  have e : IntKind.u64.wrap x = ((x.toNat : Nat) : Int) := by
    simp only [IntKind.wrap, IntKind.bits, IntKind.signed]
    simp; omega
  rw [e]
  refine f66_ok (by omega) hs ?_
  rw [pStr_str]
  exact tidy_none h
theorem f33_ok {x : Int} (h : Q (.bool (numOk x)) H) : Cl B 33 [.int .i64 x] H Q := by
  refine f33_in fun n cl hn hcl hH hA => ?_
  refine bs_dec (fun h1 => ib_le (tidy_none ?_)) fun h1 => tidy_none ?_
  · have : numOk x = decide (x ≤ 1099511627776) := by simp only [numOk]; rw [decide_eq_true (by omega : (0 : Int) ≤ x), Bool.true_and]
    rw [← this]; exact h
  · have : numOk x = false := by simp only [numOk]; rw [decide_eq_false (by omega : ¬ (0 : Int) ≤ x), Bool.false_and]
    rw [← this]; exact h
theorem f64_ok (hr : entR e = true) (h : Q (.str (entB e)) H) : Cl B 64 [.agg e.row] H Q := by
  refine f64_in fun n cl hn hcl hH hA => op_box rfl rfl (J64_4_in ?_)
  subst hcl
  obtain ⟨l1, l2, l3, l4⟩ := entR_len hr
  have g0 : (H ++ [AObj.var e.row])[H.length]? = some (.var e.row) := by rw [get_app0]; rfl
  have p : ∀ {M : Heap} {i : Nat} {v : AV}, e.row[i]? = some v → peek B (H ++ [AObj.var e.row] ++ M) (.ptr (some (.new H.length, i))) = some v := fun {M i v} hv => peekV (c := e.row) (get_pre g0) hv
  have p0 : ∀ {i : Nat} {v : AV}, e.row[i]? = some v → peek B (H ++ [AObj.var e.row]) (.ptr (some (.new H.length, i))) = some v := fun {i v} hv => peekV (c := e.row) g0 hv
  rw [peekVN g0 (n := 4) rfl, ob_some]
  refine f63_ok (tyK_bool (J64_3_in ?_))
  rw [pBool_bool, hr, bs_true]
  refine J64_2_in (op_fldP ?_)
  rw [p0 (v := .bool e.del) (i := 0 + 2) rfl, ob_some]
  have es : IntKind.u64.wrap e.seq = ((e.seq.toNat : Nat) : Int) := by
    simp only [IntKind.wrap, IntKind.bits, IntKind.signed]
    simp; omega
  have ps := putF_small e.seq.toNat (by omega)
  have pk := putF_small e.key.length (by omega)
  refine tyK_bool (J64_0_in ?_)
  rw [pBool_bool]
  by_cases hd : e.del = true
  · rw [if_pos hd]
    refine op_fldP ?_
    rw [p0 (v := .int .i64 e.seq) (i := 0 + 3) rfl, ob_some, pInt_int]
    refine op_fldP ?_
    rw [p0 (v := .str e.key) (i := 0 + 0) rfl, ob_some, pStr_str, show layParts [(.int .u8 0)] [(0, 1, .int .u8 1)] = some (brw 1) from rfl, ob_some]
    refine slK_in (op_toStr (s := [1]) (sl_row1 rfl) ?_)
    rw [es]
    refine f66_ok (by omega) (by simp) ?_
    rw [pStr_str]
    refine ⟨?_, op_fldP rfl, ?_⟩
    · rw [p (v := .str e.key) (i := 0 + 0) rfl, ob_some, pStr_str]
    refine f65_ok (by simp; omega) (by omega) ?_
    rw [pStr_str]
    refine tidy_drop2 hn hH low_str ?_
    have : entB e = [1] ++ putF e.seq.toNat ++ putF e.key.length ++ e.key := by simp [entB, hd]
    rw [← this]; exact h
  · rw [if_neg hd]
    have hd0 : e.del = false := by simpa using hd
    refine J64_1_in (op_fldP ?_)
    rw [p0 (v := .int .i64 e.seq) (i := 0 + 3) rfl, ob_some, pInt_int]
    refine op_fldP ?_
    rw [p0 (v := .str e.key) (i := 0 + 0) rfl, ob_some, pStr_str]
    refine op_fldP ?_
    rw [p0 (v := .str e.value) (i := 0 + 1) rfl, ob_some, pStr_str, show layParts [(.int .u8 0)] [(0, 1, .int .u8 0)] = some (brw 0) from rfl, ob_some]
    refine slK_in (op_toStr (s := [0]) (sl_row1 rfl) ?_)
    rw [es]
    refine f66_ok (by omega) (by simp) ?_
    rw [pStr_str]
    refine ⟨?_, op_fldP rfl, ?_, op_fldP rfl, ?_⟩
    · rw [p (v := .str e.value) (i := 0 + 1) rfl, ob_some, pStr_str]
    · rw [p (v := .str e.key) (i := 0 + 0) rfl, ob_some, pStr_str]
    refine f65_ok (by simp; omega) (by omega) ?_
    rw [pStr_str]
    refine ⟨?_, op_fldP rfl, ?_⟩
    · rw [p (v := .str e.value) (i := 0 + 1) rfl, ob_some, pStr_str]
    refine f65_ok (by simp; omega) (by omega) ?_
    rw [pStr_str]
    refine tidy_drop2 hn hH low_str ?_
    have : entB e = [0] ++ putF e.seq.toNat ++ putF e.key.length ++ e.key ++ putF e.value.length ++ e.value := by simp [entB, hd0]
    rw [← this]; exact h

theorem f31_loop {l : List Ent} {ev : AV} {s : List UInt8} (he : Sl B H 4 ev (l.map Ent.row)) (hsz : l.length ≤ 1000000)
    (h1 : entsW l = false → Q (.tuple [.str (s ++ entsB l), .bool true]) H) (h2 : entsW l = true → ∀ s', Q (.tuple [.str s', .bool false]) H) :
    ∀ (rest : List Ent) (i : Nat) (acc : List UInt8), l.drop i = rest → acc ++ entsB rest = s ++ entsB l → entsW rest = entsW l → acc.length ≤ 800000010000 + 2000 * i → L31_4 B (Cl B) n (.str acc) ev (i : Int) H Q
  | [], i, acc, hd, ha, hw, hal => by
    have hl := drop_nil hd
    have hlen : lenOf ev = some l.length := by have := he.len; rwa [List.length_map] at this
    refine L31_4_in (ACall.cle B table) ?_
    rw [hlen, ob_some]
    refine bs_dec (fun h1 => by omega) fun _ => J31_5_in (tidy_none ?_)
    have := h1 hw.symm
    rw [← ha] at this
    simpa [entsB] using this
  | e :: r, i, acc, hd, ha, hw, hal => by
    obtain ⟨hget, hlt, hd'⟩ := drop_cons hd
    have hlen : lenOf ev = some l.length := by have := he.len; rwa [List.length_map] at this
    have hrow : (l.map Ent.row)[i]? = some e.row := by simp [hget]
    refine L31_4_in (ACall.cle B table) ?_
    rw [hlen, ob_some]
    refine bs_dec (fun _ => J31_3_in (op_idx he (by simpa using hlt) ?_)) fun h1 => absurd (by omega) h1
    rw [(he.el hrow).peekN (n := 4) rfl, ob_some]
    refine f63_ok (tyK_bool (J31_1_in ?_))
    rw [pBool_bool]
    refine bs_iff.2 ⟨fun hr => J31_0_in (op_idx he (by simpa using hlt) ?_), fun hr => tidy_none (h2 ?_ _)⟩
    · rw [(he.el hrow).peekN (n := 4) rfl, ob_some]
      refine f64_ok hr ?_
      rw [pStr_str, pStr_str]
      have hel := @entB_len e
      rw [if_pos hr] at hel
      refine sb_add (by simp [maxInt]; omega) (J31_2_in ?_)
      rw [w64 (n := (i : Int) + 1) (by omega)]
      refine f31_loop he hsz h1 h2 r (i + 1) _ hd' ?_ ?_ ?_
      · rw [← ha]; simp [entsB, hr]
      · rw [← hw]; simp [entsW, hr]
      · rw [List.length_append]; omega
    · rw [← hw]; simp [entsW, hr]
theorem f31_ok {l : List Ent} {ev : AV} {s : List UInt8} (he : Sl B H 4 ev (l.map Ent.row)) (hsz : l.length ≤ 1000000) (hs : s.length ≤ 800000000000)
    (h1 : entsW l = false → Q (.tuple [.str (s ++ putF l.length ++ entsB l), .bool true]) H) (h2 : entsW l = true → ∀ s', Q (.tuple [.str s', .bool false]) H) : Cl B 31 [.str s, ev] H Q := by
  refine f31_in fun n cl hn hcl hH hA => J31_6_in ?_
  subst hcl
  have hlen : lenOf ev = some l.length := by have := he.len; rwa [List.length_map] at this
  have hp := putF_small l.length (by omega)
  rw [hlen, ob_some]
  refine f34_ok (by omega) (by omega) ?_
  rw [pStr_str]
  exact f31_loop (s := s ++ putF l.length) he hsz h1 h2 l 0 _ rfl (by simp) rfl (by simp; omega)

end
end Go.Am

/- The document's bytes of paths, openings, points, spans. -/
namespace Go.Am
open Go

section
variable {B : Base} {n : Nat} {H G : Heap} {Q : AV → Heap → Prop} {s : List UInt8}

theorem op_arr32 {p : AV} {d : List UInt8} {K : AV → Heap → Prop} (h : El B G p (dg d)) (hd : d.length = 32) (hk : ∀ v, Bs B G v d → K v G) : aop B E0 G K (.sliceA 32 1 (.const p) none none) := by
  obtain ⟨o, i, rfl, hc⟩ := h
  rw [dg_len, hd] at hc
  refine hk (.slice o i 32 1 (some 32)) ⟨brws_len _, .inr ⟨o, i, some 32, by rw [List.length_map, hd], ?_⟩⟩
  rw [List.length_map, hd]
  exact hc
theorem tuple_sb {a : List UInt8} {b : Bool} {K : AV → AV → Prop} (h : K (.str a) (.bool b)) : pLive (.tuple [.str a, .bool b]) fun v => aop B E0 G (fun v1 _ => aop B E0 G (fun v2 _ => K v1 v2) (.extract (some .bool) 1 (.const v))) (.extract (some .str) 0 (.const v)) :=
  live_tuple (op_extS rfl (op_extB (b := b) rfl h))
theorem low_sb {a : List UInt8} {b : Bool} : Low n (.tuple [.str a, .bool b]) := by simp [Low, RV, RVL]

theorem f95_ok {l : List (List UInt8)} {v : AV} (hv : PathR B H v l) (hl : l.length ≤ 100) (hd : ∀ d, d ∈ l → d.length = 32) (hs : s.length ≤ 800000000000) (h : Q (.tuple [.str (s ++ pathB l), .bool (decide ((l.length : Int) ≤ 64))]) H) : Cl B 95 [.str s, v] H Q := by
  refine f95_in fun n cl hn hcl hH hA => ?_
  subst hcl
  have hlen : lenOf v = some l.length := by have := Sl.len hv; rwa [List.length_map] at this
  have hp := putF_small l.length (by omega)
  rw [hlen, ob_some]
  refine f34_ok (by omega) (by omega) ?_
  rw [pStr_str, Int.toNat_natCast]
  have go : ∀ (rest : List (List UInt8)) (i : Nat) (acc : List UInt8), l.drop i = rest → acc ++ rest.flatMap (fun d => d) = s ++ pathB l → acc.length ≤ 800000000010 + 32 * i → L95_0 B (Cl B) n (.str acc) v (i : Int) H Q := fun rest => by
    induction rest with
    | nil =>
      intro i acc h1 h2 h3
      have hi := drop_nil h1
      refine L95_0_in (ACall.cle B table) ?_
      rw [hlen, ob_some]
      refine bs_no (decide_eq_false (by omega)) (J95_1_in ?_)
      rw [hlen, ob_some]
      refine ib_le (tidy_none ?_)
      simp only [List.flatMap_nil, List.append_nil] at h2
      rw [h2]; exact h
    | cons d rest ih =>
      intro i acc h1 h2 h3
      obtain ⟨g1, g2, g3⟩ := drop_cons h1
      have h32 := hd d (List.mem_of_getElem? g1)
      have hr : (l.map dg)[i]? = some (dg d) := by simp [g1]
      refine L95_0_in (ACall.cle B table) ?_
      rw [hlen, ob_some]
      refine bs_yes (decide_eq_true (by omega)) (op_idx hv (by simpa using g2) (op_arr32 (Sl.el hv hr) h32 fun w hw => op_toStr hw ?_))
      rw [pStr_str, pStr_str]
      refine sb_add (by simp only [maxInt]; omega) ?_
      rw [w64 (n := (i : Int) + 1) (by omega)]
      refine ih (i + 1) (acc ++ d) g3 ?_ (by rw [List.length_append]; omega)
      rw [← h2, List.flatMap_cons, List.append_assoc]
  exact go l 0 _ rfl (by unfold pathB; rw [List.append_assoc]) (by rw [List.length_append]; omega)

theorem f94_ok {o : Opn} {c : List AV} (hc : OpR B H c o) (ho : OnOk o) (hs : s.length ≤ 700000000000) (h1 : opW o = true → ∀ s', s'.length ≤ s.length + 1100000 → Q (.tuple [.str s', .bool false]) H) (h2 : opW o = false → Q (.tuple [.str (s ++ opB o), .bool true]) H) : Cl B 94 [.str s, .agg c] H Q := by
  obtain ⟨lv, pv, rfl, hl, hp⟩ := hc
  obtain ⟨a, t, l⟩ := o
  obtain ⟨o1, o2, o3, o4⟩ := ho
  simp only at o1 o2 o3 o4 hl hp
  refine f94_in fun n cl hn hcl hH hA => op_box rfl rfl (op_fldP ?_)
  subst hcl
  have g0 : (H ++ [AObj.var [.int .i64 a, lv, pv]])[H.length]? = some (.var [.int .i64 a, lv, pv]) := by rw [get_app0]; rfl
  have hl' : Bs B (H ++ [AObj.var [.int .i64 a, lv, pv]]) lv t := hl.pre
  have hp' : PathR B (H ++ [AObj.var [.int .i64 a, lv, pv]]) pv l := hp.pre
  have fin : ∀ (s' : List UInt8) (b : Bool), Q (.tuple [.str s', .bool b]) H → tidyK n Q (.tuple [.str s', .bool b]) (H ++ [AObj.var [.int .i64 a, lv, pv]]) := fun s' b h => tidy_drop hn hH low_sb h
  generalize H ++ [AObj.var [.int .i64 a, lv, pv]] = G at g0 hl' hp' fin ⊢
  rw [peekV g0 (v := .int .i64 a) rfl, ob_some]
  refine int_i (f33_ok ?_)
  rw [pBool_bool]
  refine bs_iff.2 ⟨fun hn => op_fldP ?_, fun hn => fin _ _ (h1 (by simp [opW, hn]) _ (by omega))⟩
  have ha : 0 ≤ a := by simp only [numOk, Bool.and_eq_true, decide_eq_true_eq] at hn; exact hn.1
  rw [peekV g0 (v := .int .i64 a) rfl, ob_some]
  refine int_i (op_fldP ?_)
  rw [peekV g0 (v := lv) rfl, ob_some]
  refine Sl.live hl _ (op_toStr hl' (op_fldP ?_))
  rw [peekV g0 (v := pv) rfl, ob_some]
  have pa := putF_small a.toNat (by omega)
  have pt := putF_small t.length (by omega)
  refine Sl.live hp _ (f34_ok (by omega) (by omega) ?_)
  rw [pStr_str]
  refine ⟨by rw [peekV g0 (v := pv) rfl, ob_some]; exact Sl.live hp _ rfl, op_fldP rfl, op_toStr hl' rfl, by rw [peekV g0 (v := lv) rfl, ob_some]; exact Sl.live hl _ rfl, op_fldP rfl, ?_⟩
  refine f32_ok (by rw [List.length_append]; omega) (by omega) ?_
  rw [pStr_str]
  refine ⟨by rw [peekV g0 (v := pv) rfl, ob_some]; exact Sl.live hp _ rfl, op_fldP rfl, ?_⟩
  refine f95_ok hp' o3 o4 (by simp only [List.length_append]; omega) (tuple_sb ?_)
  have hw : opW ⟨a, t, l⟩ = !decide ((l.length : Int) ≤ 64) := by simp [opW, hn]
  by_cases h64 : (l.length : Int) ≤ 64
  · rw [decide_eq_true h64]
    have := h2 (by rw [hw, decide_eq_true h64]; rfl)
    refine fin _ _ ?_
    simpa [opB] using this
  · rw [decide_eq_false h64]
    have hpl := pathB_le o3 o4
    exact fin _ _ (h1 (by rw [hw, decide_eq_false h64]; rfl) _ (by simp only [List.length_append]; omega))

theorem f74_ok {p : Pnt} {c : List AV} (hc : PtR B H c p) (ho : PtOk p) (hs : s.length ≤ 600000000000) (h1 : ptW p = true → ∀ s', Q (.tuple [.str s', .bool false]) H) (h2 : ptW p = false → Q (.tuple [.str (s ++ ptB p), .bool true]) H) : Cl B 74 [.str s, .agg c] H Q := by
  obtain ⟨ca, cb, rfl, hca, hcb⟩ := hc
  obtain ⟨bt, oa, ob'⟩ := p
  obtain ⟨oka, okb⟩ := ho
  simp only at hca hcb oka okb
  have la : ca.length = 3 := by obtain ⟨_, _, rfl, _⟩ := hca; rfl
  have lb : cb.length = 3 := by obtain ⟨_, _, rfl, _⟩ := hcb; rfl
  refine f74_in fun n cl hn hcl hH hA => op_box (n := 7) rfl (by simp [la, lb]) ?_
  subst hcl
  have g0 : (H ++ [AObj.var (.bool bt :: (ca ++ cb))])[H.length]? = some (.var (.bool bt :: (ca ++ cb))) := by rw [get_app0]; rfl
  have hca' : ∀ {L : Heap}, OpR B (H ++ [AObj.var (.bool bt :: (ca ++ cb))] ++ L) ca oa := fun {L} => hca.pre.pre
  have hcb' : ∀ {L : Heap}, OpR B (H ++ [AObj.var (.bool bt :: (ca ++ cb))] ++ L) cb ob' := fun {L} => hcb.pre.pre
  have fin : ∀ (L : Heap) (s' : List UInt8) (b : Bool), Q (.tuple [.str s', .bool b]) H → tidyK n Q (.tuple [.str s', .bool b]) (H ++ [AObj.var (.bool bt :: (ca ++ cb))] ++ L) := fun L s' b h => by rw [List.append_assoc]; exact tidy_drop hn hH low_sb h
  generalize H ++ [AObj.var (.bool bt :: (ca ++ cb))] = G at g0 hca' hcb' fin ⊢
  have oal := opB_le oka
  refine J74_5_in (op_fldP ?_)
  rw [peekV g0 (v := .bool bt) rfl, ob_some]
  refine tyK_bool (op_notB (J74_1_in ?_))
  rw [pBool_bool]
  cases bt with
  | false =>
    rw [if_pos (show (!false) = true from rfl), show layParts [(.int .u8 0)] [(0, 1, .int .u8 0)] = some (brw 0) from rfl, ob_some]
    refine slK_in (op_toStr (s := [0]) (sl_row1 rfl) ?_)
    have g1 : (G ++ [AObj.arr (brw 0)])[H.length]? = some (.var (.bool false :: (ca ++ cb))) := get_pre g0
    rw [pStr_str]
    refine sb_add (by simp only [maxInt, List.length_singleton]; omega) (op_fldP ?_)
    rw [peekN_mid (i := 0 + 1) (m := 3) (a := [.bool false]) (c := ca) (d := cb) g1 rfl la, ob_some]
    obtain ⟨lv, pv, rfl, hlb, hpb⟩ := hcb
    have hlb' : Bs B (G ++ [.arr (brw 0)]) lv ob'.leaf := by obtain ⟨lv2, pv2, e, x, y⟩ := hcb' (L := [.arr (brw 0)]); cases e; exact x
    have hpb' : PathR B (G ++ [.arr (brw 0)]) pv ob'.path := by obtain ⟨lv2, pv2, e, x, y⟩ := hcb' (L := [.arr (brw 0)]); cases e; exact y
    have q0 : ∀ {i : Nat} {v : AV}, (AV.bool false :: (ca ++ [.int .i64 ob'.at_, lv, pv]))[i]? = some v → peek B (G ++ [AObj.arr (brw 0)]) (.ptr (some (.new H.length, i))) = some v := fun h => peekV g1 h
    have c4 : (AV.bool false :: (ca ++ [.int .i64 ob'.at_, lv, pv]))[0 + 4 + 0]? = some (.int .i64 ob'.at_) ∧ (AV.bool false :: (ca ++ [.int .i64 ob'.at_, lv, pv]))[0 + 4 + 1]? = some lv ∧ (AV.bool false :: (ca ++ [.int .i64 ob'.at_, lv, pv]))[0 + 4 + 2]? = some pv := by
      obtain ⟨x, y, rfl, _⟩ := hca
      exact ⟨rfl, rfl, rfl⟩
    have lleaf : lenOf lv = some ob'.leaf.length := hlb.len
    have lpath : lenOf pv = some ob'.path.length := by have := Sl.len hpb; rwa [List.length_map] at this
    refine f94_ok hca' oka (by simp only [List.length_append, List.length_singleton]; omega) (fun hw s' _ => tuple_sb (J74_0_in (guard_split (fun e => by cases e) fun _ => fin _ _ _ (h1 (by simp [ptW, hw]) _)))) fun hw => tuple_sb (J74_0_in (guard_split (fun _ => op_fldP (op_fldP ?_)) fun e => by cases e))
    rw [q0 c4.1, ob_some]
    refine int_i (ib_eq (guard_split (fun e1 => op_fldP (op_fldP ?_)) fun e1 => fin _ _ _ (h1 ?_ _)))
    · rw [q0 c4.2.1, ob_some]
      refine Sl.live hlb _ ?_
      rw [lleaf, ob_some]
      refine ib_eq (guard_split (fun e2 => op_fldP (op_fldP ?_)) fun e2 => fin _ _ _ (h1 ?_ _))
      · rw [q0 c4.2.2, ob_some]
        refine Sl.live hpb _ ?_
        rw [lpath, ob_some]
        have e1 : ob'.at_ = 0 := of_decide_eq_true e1
        have e2 : ob'.leaf = [] := List.length_eq_zero_iff.1 (by have := of_decide_eq_true e2; omega)
        refine ib_eq ?_
        by_cases e3 : ob'.path = []
        · rw [decide_eq_true (by rw [e3]; rfl)]
          refine fin _ _ _ ?_
          have := h2 (by simp [ptW, hw, noneB, e1, e2, e3])
          simpa [ptB] using this
        · rw [decide_eq_false (by intro h; exact e3 (List.length_eq_zero_iff.1 (by omega)))]
          exact fin _ _ _ (h1 (by simp [ptW, hw, noneB, e3]) _)
      · have e2 := of_decide_eq_false e2
        have : ob'.leaf ≠ [] := fun e => e2 (by rw [e]; rfl)
        simp [ptW, noneB, this]
    · have e1 := of_decide_eq_false e1
      simp [ptW, noneB, e1]
  | true =>
    rw [if_neg (by decide)]
    refine J74_4_in ?_
    rw [show layParts [(.int .u8 0)] [(0, 1, .int .u8 1)] = some (brw 1) from rfl, ob_some]
    refine slK_in (op_toStr (s := [1]) (sl_row1 rfl) ?_)
    have g1 : (G ++ [AObj.arr (brw 1)])[H.length]? = some (.var (.bool true :: (ca ++ cb))) := get_pre g0
    rw [pStr_str]
    refine sb_add (by simp only [maxInt, List.length_singleton]; omega) (op_fldP ?_)
    rw [peekN_mid (i := 0 + 1) (m := 3) (a := [.bool true]) (c := ca) (d := cb) g1 rfl la, ob_some]
    have p2 : peekN B (G ++ [AObj.arr (brw 1)]) 3 (.ptr (some (.new H.length, 0 + 4))) = some cb := peekN_mid (a := .bool true :: ca) (d := []) (by rw [List.append_nil]; exact g1) (by simp [la]) lb
    refine f94_ok hca' oka (by simp only [List.length_append, List.length_singleton]; omega) (fun hw s' hsl => tuple_sb (J74_3_in (op_fldP ?_))) fun hw => tuple_sb (J74_3_in (op_fldP ?_))
    · rw [p2, ob_some]
      simp only [List.length_append, List.length_singleton] at hsl
      have bad : ∀ (u : List UInt8) (b : Bool), J74_2 B (Cl B) n (.bool false) (.str u) (.bool b) (G ++ [AObj.arr (brw 1)]) Q := fun u b => J74_2_in (guard_split (fun e => by cases e) fun _ => fin _ _ _ (h1 (by simp [ptW, hw]) _))
      exact f94_ok hcb' okb (by omega) (fun _ u _ => tuple_sb (bad u false)) fun _ => tuple_sb (bad _ true)
    · rw [p2, ob_some]
      refine f94_ok hcb' okb (by simp only [List.length_append, List.length_singleton]; omega) (fun hw2 s' _ => tuple_sb (J74_2_in (guard_split (fun _ => fin _ _ _ (h1 (by simp [ptW, hw, hw2]) _)) fun e => by cases e))) fun hw2 => tuple_sb (J74_2_in (guard_split (fun _ => fin _ _ _ ?_) fun e => by cases e))
      have := h2 (by simp [ptW, hw, hw2])
      simpa [ptB] using this
end
end Go.Am

/- The document's bytes of spans. -/
namespace Go.Am
open Go

section
variable {B : Base} {n : Nat} {H G : Heap} {Q : AV → Heap → Prop} {s : List UInt8}

theorem f75_ok {x : Spn} {c : List AV} (hc : SnR B H c x) (ho : SnOk x) (hs : s.length ≤ 600000000000) (h1 : spW x = true → ∀ s', Q (.tuple [.str s', .bool false]) H) (h2 : spW x = false → Q (.tuple [.str (s ++ spB x), .bool true]) H) : Cl B 75 [.str s, .agg c] H Q := by
  obtain ⟨lv, pv, rfl, ⟨us, hus, hfu⟩, hp⟩ := hc
  obtain ⟨a, ls, l⟩ := x
  obtain ⟨o1, o2, o3, o4, o5⟩ := ho
  simp only at o1 o2 o3 o4 o5 hfu hp
  refine f75_in fun n cl hn hcl hH hA => op_box rfl rfl (J75_7_in (op_fldP ?_))
  subst hcl
  have g0 : (H ++ [AObj.var [.int .i64 a, lv, pv]])[H.length]? = some (.var [.int .i64 a, lv, pv]) := by rw [get_app0]; rfl
  have hus' : Sl B (H ++ [AObj.var [.int .i64 a, lv, pv]]) 1 lv (us.map fun u => [u]) := hus.pre
  have hfu' : F2 (Bs B (H ++ [AObj.var [.int .i64 a, lv, pv]])) us ls := hfu.mono fun _ _ h => h.pre
  have hp' : PathR B (H ++ [AObj.var [.int .i64 a, lv, pv]]) pv l := hp.pre
  have fin : ∀ (s' : List UInt8) (b : Bool), Q (.tuple [.str s', .bool b]) H → tidyK n Q (.tuple [.str s', .bool b]) (H ++ [AObj.var [.int .i64 a, lv, pv]]) := fun s' b h => tidy_drop hn hH low_sb h
  generalize H ++ [AObj.var [.int .i64 a, lv, pv]] = G at g0 hus' hfu' hp' fin ⊢
  have hlen : lenOf lv = some ls.length := by rw [hus.len, List.length_map, hfu.1]
  have q1 : ∀ {i : Nat} {v : AV}, ([.int .i64 a, lv, pv] : List AV)[i]? = some v → peek B G (.ptr (some (.new H.length, i))) = some v := fun h => peekV g0 h
  rw [q1 (v := .int .i64 a) rfl, ob_some]
  have bad : spW ⟨a, ls, l⟩ = true → J75_0 B (Cl B) n s (.ptr (some (.new H.length, 0))) (.bool true) G Q := fun hw => J75_0_in (by rw [pBool_bool, if_pos rfl]; exact fin _ _ (h1 hw _))
  refine int_i (f33_ok ?_)
  rw [pBool_bool]
  refine bs_iff.2 ⟨fun hn => op_fldP ?_, fun hn => bad (by simp [spW, hn])⟩
  have ha : 0 ≤ a := by simp only [numOk, Bool.and_eq_true, decide_eq_true_eq] at hn; exact hn.1
  rw [q1 (v := lv) rfl, ob_some]
  refine hus.live _ ?_
  rw [hlen, ob_some]
  by_cases h64 : (ls.length : Int) > 64
  · exact ib_gt_yes h64 (bad (by simp [spW]; omega))
  refine ib_gt_no h64 (J75_0_in ?_)
  rw [pBool_bool, if_neg (by decide)]
  refine J75_6_in (op_fldP ?_)
  rw [q1 (v := .int .i64 a) rfl, ob_some]
  refine int_i (op_fldP ?_)
  rw [q1 (v := lv) rfl, ob_some]
  refine hus.live _ ?_
  have pa := putF_small a.toNat (by omega)
  have pt := putF_small ls.length (by omega)
  rw [hlen, ob_some]
  refine f34_ok (by omega) (by omega) ?_
  rw [pStr_str]
  refine ⟨rfl, by rw [q1 (v := lv) rfl, ob_some]; exact hus.live _ rfl, op_fldP rfl, ?_⟩
  refine f34_ok (by rw [List.length_append]; omega) (by omega) ?_
  rw [pStr_str, Int.toNat_natCast]
  refine J75_5_in ?_
  have go : ∀ (rest : List (List UInt8)) (i : Nat) (acc : List UInt8), ls.drop i = rest → acc ++ rest.flatMap leafB = s ++ putF a.toNat ++ putF ls.length ++ ls.flatMap leafB → acc.length + 1000020 * rest.length ≤ 700000000000 → L75_3 B (Cl B) n acc (.ptr (some (.new H.length, 0))) (i : Int) G Q := fun rest => by
    induction rest with
    | nil =>
      intro i acc e1 e2 e3
      have hi := drop_nil e1
      refine L75_3_in (ACall.cle B table) (op_fldP ?_)
      rw [q1 (v := lv) rfl, ob_some]
      refine hus.live _ ?_
      rw [hlen, ob_some]
      refine bs_no (decide_eq_false (by omega)) (J75_4_in (op_fldP ?_))
      rw [q1 (v := pv) rfl, ob_some]
      simp only [List.flatMap_nil, List.append_nil, List.length_nil] at e2 e3
      refine Sl.live hp _ (f95_ok hp' o4 o5 (by omega) (tuple_sb ?_))
      have hw : spW ⟨a, ls, l⟩ = !decide ((l.length : Int) ≤ 64) := by simp [spW, hn]; omega
      by_cases hl : (l.length : Int) ≤ 64
      · rw [decide_eq_true hl]
        have := h2 (by rw [hw, decide_eq_true hl]; rfl)
        refine fin _ _ ?_
        rw [e2]
        simpa [spB] using this
      · rw [decide_eq_false hl]
        exact fin _ _ (h1 (by rw [hw, decide_eq_false hl]; rfl) _)
    | cons t rest ih =>
      intro i acc e1 e2 e3
      obtain ⟨g1, g2, g3⟩ := drop_cons e1
      obtain ⟨u, hu, hbt⟩ := at_some hfu' g1
      have hru : (us.map fun u => [u])[i]? = some [u] := by simp [hu]
      have ht := o3 t (List.mem_of_getElem? g1)
      have ptl := putF_small t.length (by omega)
      simp only [List.length_cons] at e3
      refine L75_3_in (ACall.cle B table) (op_fldP ?_)
      rw [q1 (v := lv) rfl, ob_some]
      refine hus.live _ ?_
      rw [hlen, ob_some]
      refine bs_yes (decide_eq_true (by omega)) (J75_2_in (op_fldP ?_))
      rw [q1 (v := lv) rfl, ob_some]
      refine hus.live _ (op_idx hus' (in_some hru) ?_)
      rw [(hus'.el hru).peek0 (v := u) rfl, ob_some]
      refine Sl.live hbt _ (op_toStr hbt (f32_ok (by omega) ht ?_))
      rw [pStr_str]
      refine J75_1_in ?_
      rw [w64 (n := (i : Int) + 1) (by omega)]
      refine ih (i + 1) _ g3 ?_ (by simp only [List.length_append]; omega)
      rw [← e2, List.flatMap_cons]
      simp [leafB]
  exact go ls 0 _ rfl rfl (by simp only [List.length_append]; omega)

def onlyR (k : Int) (r : Rpl) : Rpl :=
  if k = 1 then rp3 0 r.last 0 else if k = 2 then rq2 r.psum r.pts else if k = 3 then rq3 r.ssum r.sns else if k = 4 then rq5 r.epoch r.sum []
  else if k = 5 then rq5 r.epoch r.sum r.rows else rp3 0 r.last r.epoch
end
end Go.Am

/- The document's body of a reply. -/
namespace Go.Am
open Go

section
variable {B : Base} {n : Nat} {H G M : Heap} {C : Nat → Option AObj} {Q : AV → Heap → Prop} {s : List UInt8} {x5 x7 x9 : Nat} {c oc : List AV}

abbrev TT : MM → Prop := fun _ => True
/-- The state: the reply at x5, the result's place at x7, what is its kind's at x9. -/
abbrev Z45 (H M : Heap) (C : Nat → Option AObj) (x5 x7 x9 : Nat) (c oc : List AV) : Prop := Z16 H M C x5 x7 x9 c oc TT

/-- What it answers. -/
def BoQ (B : Base) (H : Heap) (k : Int) (r : Rpl) (c : List AV) (s : List UInt8) (Q : AV → Heap → Prop) : Prop :=
  (bodyW k r = true → ∀ s' oc r' L, RpOk r' → (∀ N, RpR B N c r → RpR B N oc r') → Q (.tuple [.str s', .agg oc, .bool false]) (H ++ L)) ∧
  (bodyW k r = false → ∀ oc L, (∀ N, RpR B N c r → RpR B N oc (onlyR k r)) → Q (.tuple [.str (s ++ bodyB k r), .agg oc, .bool true]) (H ++ L))

theorem ret45 {b : Bool} {a : List UInt8} (z : Z45 H M C x5 x7 x9 c oc) (hl : oc.length = 9) (hq : ∀ L, Q (.tuple [.str a, .agg oc, .bool b]) (H ++ L)) :
    ob (peekN B M 9 (pt x9)) fun c25 => (aop B E0 M (fun _ H27 => ob (peekN B H27 9 (pt x7)) fun c28 => tidyK n Q (.tuple [.str a, .agg c28, .bool b]) H27) (.st 9 (.const (pt x7)) (.const (.agg c25)))) := by
  rw [show peekN B M 9 (pt x9) = some oc from peekVN (z.k.cs _ _ z.c3) hl, ob_some]
  refine op_st (c := row3 0 0 0) (vs := oc) rfl hl (z.k.cs _ _ z.c2) (by simp [row3]) ?_
  have k3 := z.k.set z.c2 z.l2 (.var oc)
  rw [putAt_all (by rw [hl]; rfl), show peekN B (M.set x7 (.var oc)) 9 (pt x7) = some oc from peekVN (k3.cs _ _ updC_at) hl, ob_some]
  obtain ⟨L, hL⟩ := k3.pre
  rw [hL]
  exact tidy_none (hq L)
theorem Z16.put2 {x1 x2 x3 : Nat} {c0 cc : List AV} {T : MM → Prop} (hT : Mono T) (z : Z16 G M C x1 x2 x3 c0 cc T) {off : Nat} {vs cc' : List AV} {K : Heap → Prop} (hv : vs.length = 2) (ho : off + 2 ≤ cc.length) (hp : putAt cc off vs = cc')
    (hK : Z16 G (M.set x3 (.var cc')) (updC C x3 (.var cc')) x1 x2 x3 c0 cc' T → K (M.set x3 (.var cc'))) : aop B E0 M (fun _ H => K H) (.st 2 (.const (.ptr (some (.new x3, off)))) (.const (.agg vs))) := by
  refine op_st (c := cc) (vs := vs) rfl hv (z.k.cs _ _ z.c3) ho ?_
  rw [hp]
  exact hK (z.set hT cc')

section
variable {er la ep : Int} {v3 v4 v5 v6 v7 v8 : AV}

/-- The points' bytes. -/
theorem bo_pts {pts : List Pnt} {s0 : List UInt8} (z : Z45 H M C x5 x7 x9 (cc9 er la ep v3 v4 v5 v6 v7 v8) oc) (n57 : x5 ≠ x7) (hl : oc.length = 9) (hp : PtsR B H v4 pts) (hok : pts.length ≤ 600 ∧ ∀ p, p ∈ pts → PtOk p)
    (h0 : (!decide ((pts.length : Int) ≤ 512) || pts.any ptW) = true → ∀ s' L, Q (.tuple [.str s', .agg oc, .bool false]) (H ++ L)) (h1 : (!decide ((pts.length : Int) ≤ 512) || pts.any ptW) = false → ∀ L, Q (.tuple [.str (s0 ++ pts.flatMap ptB), .agg oc, .bool true]) (H ++ L)) :
    ∀ (rest : List Pnt) (i : Nat) (acc : List UInt8), pts.drop i = rest → acc ++ rest.flatMap ptB = s0 ++ pts.flatMap ptB → rest.any ptW = pts.any ptW → acc.length + 2100000 * rest.length ≤ 500000000000 → L45_5 B (Cl B) n (.str acc) (pt x5) (pt x7) (pt x9) (i : Int) M Q := by
  have hpM : PtsR B M v4 pts := by obtain ⟨L, hL⟩ := z.k.pre; rw [hL]; exact hp.pre
  obtain ⟨rows, hr, hfr⟩ := hpM
  have hlen : lenOf v4 = some pts.length := by rw [hr.len, hfr.1]
  intro rest
  induction rest with
  | nil =>
    intro i acc e1 e2 e3 e4
    have hi := drop_nil e1
    simp only [List.flatMap_nil, List.append_nil] at e2
    refine L45_5_in (ACall.cle B table) (op_fldP (op_fldP ?_))
    rw [z.p1 (v := v4) (i := 0 + 3 + 1) rfl, ob_some]
    refine hr.live _ ?_
    rw [hlen, ob_some]
    refine bs_no (decide_eq_false (by omega)) (J45_6_in ?_)
    rw [show peekN B M 9 (pt x9) = some oc from peekVN (z.k.cs _ _ z.c3) hl, ob_some]
    refine op_fldP (op_fldP ?_)
    rw [z.p1 (v := v4) (i := 0 + 3 + 1) rfl, ob_some]
    refine hr.live _ ?_
    rw [hlen, ob_some]
    have ha : pts.any ptW = false := by rw [← e3]; rfl
    refine ib_le ?_
    refine op_st (c := row3 0 0 0) (vs := oc) rfl hl (z.k.cs _ _ z.c2) (by simp [row3]) ?_
    have k3 := z.k.set z.c2 z.l2 (.var oc)
    have g5 := k3.cs x5 _ (by rw [updC_ne n57]; exact z.c1)
    rw [putAt_all (by rw [hl]; rfl)]
    refine ⟨ib_le rfl, rfl, by rw [peekV g5 (v := v4) rfl, ob_some]; exact hr.live _ rfl, op_fldP rfl, op_fldP rfl, ?_⟩
    rw [show peekN B (M.set x7 (.var oc)) 9 (pt x7) = some oc from peekVN (k3.cs _ _ updC_at) hl, ob_some]
    obtain ⟨L, hL⟩ := k3.pre
    rw [hL]
    refine tidy_none ?_
    by_cases h512 : (pts.length : Int) ≤ 512
    · rw [decide_eq_true h512]
      have := h1 (by rw [ha, decide_eq_true h512]; rfl) L
      rw [← e2] at this
      exact this
    · rw [decide_eq_false h512]
      exact h0 (by rw [decide_eq_false h512]; rfl) _ L
  | cons p rest ih =>
    intro i acc e1 e2 e3 e4
    obtain ⟨g1, g2, g3⟩ := drop_cons e1
    obtain ⟨row, hrow, hpr⟩ := at_some hfr g1
    have h7 : row.length = 7 := hr.1 row (List.mem_of_getElem? hrow)
    have hpo := hok.2 p (List.mem_of_getElem? g1)
    simp only [List.length_cons] at e4
    refine L45_5_in (ACall.cle B table) (op_fldP (op_fldP ?_))
    rw [z.p1 (v := v4) (i := 0 + 3 + 1) rfl, ob_some]
    refine hr.live _ ?_
    rw [hlen, ob_some]
    refine bs_yes (decide_eq_true (by omega)) (J45_4_in (op_fldP (op_fldP ?_)))
    rw [z.p1 (v := v4) (i := 0 + 3 + 1) rfl, ob_some]
    refine hr.live _ (op_idx hr (in_some hrow) ?_)
    rw [(hr.el hrow).peekN h7, ob_some]
    have hpl := ptB_le hpo
    refine f74_ok hpr hpo (by omega) (fun hw s' => tuple_sb (J45_2_in ?_)) fun hw => tuple_sb (J45_2_in ?_)
    · rw [pBool_bool]
      refine bs_no rfl (ret45 z hl (h0 ?_ _))
      have : pts.any ptW = true := by rw [← e3]; simp [hw]
      rw [this, Bool.or_true]
    · rw [pBool_bool]
      refine bs_yes rfl (J45_3_in ?_)
      rw [w64 (n := (i : Int) + 1) (by have := hok.1; omega)]
      refine ih (i + 1) _ g3 ?_ ?_ (by simp only [List.length_append]; omega)
      · rw [← e2, List.flatMap_cons, List.append_assoc]
      · rw [← e3]; simp [hw]
/-- The spans' bytes. -/
theorem bo_sns {sns : List Spn} {s0 : List UInt8} (z : Z45 H M C x5 x7 x9 (cc9 er la ep v3 v4 v5 v6 v7 v8) oc) (n57 : x5 ≠ x7) (hl : oc.length = 9) (hp : SnsR B H v6 sns) (hok : sns.length ≤ 600 ∧ ∀ p, p ∈ sns → SnOk p)
    (h0 : (!decide ((sns.length : Int) ≤ 512) || sns.any spW) = true → ∀ s' L, Q (.tuple [.str s', .agg oc, .bool false]) (H ++ L)) (h1 : (!decide ((sns.length : Int) ≤ 512) || sns.any spW) = false → ∀ L, Q (.tuple [.str (s0 ++ sns.flatMap spB), .agg oc, .bool true]) (H ++ L)) :
    ∀ (rest : List Spn) (i : Nat) (acc : List UInt8), sns.drop i = rest → acc ++ rest.flatMap spB = s0 ++ sns.flatMap spB → rest.any spW = sns.any spW → acc.length + 110000000 * rest.length ≤ 500000000000 → L45_12 B (Cl B) n (.str acc) (pt x5) (pt x7) (pt x9) (i : Int) M Q := by
  have hpM : SnsR B M v6 sns := by obtain ⟨L, hL⟩ := z.k.pre; rw [hL]; exact hp.pre
  obtain ⟨rows, hr, hfr⟩ := hpM
  have hlen : lenOf v6 = some sns.length := by rw [hr.len, hfr.1]
  intro rest
  induction rest with
  | nil =>
    intro i acc e1 e2 e3 e4
    have hi := drop_nil e1
    simp only [List.flatMap_nil, List.append_nil] at e2
    refine L45_12_in (ACall.cle B table) (op_fldP (op_fldP ?_))
    rw [z.p1 (v := v6) (i := 0 + 5 + 1) rfl, ob_some]
    refine hr.live _ ?_
    rw [hlen, ob_some]
    refine bs_no (decide_eq_false (by omega)) (J45_13_in ?_)
    rw [show peekN B M 9 (pt x9) = some oc from peekVN (z.k.cs _ _ z.c3) hl, ob_some]
    refine op_fldP (op_fldP ?_)
    rw [z.p1 (v := v6) (i := 0 + 5 + 1) rfl, ob_some]
    refine hr.live _ ?_
    rw [hlen, ob_some]
    have ha : sns.any spW = false := by rw [← e3]; rfl
    refine ib_le ?_
    refine op_st (c := row3 0 0 0) (vs := oc) rfl hl (z.k.cs _ _ z.c2) (by simp [row3]) ?_
    have k3 := z.k.set z.c2 z.l2 (.var oc)
    have g5 := k3.cs x5 _ (by rw [updC_ne n57]; exact z.c1)
    rw [putAt_all (by rw [hl]; rfl)]
    refine ⟨ib_le rfl, rfl, by rw [peekV g5 (v := v6) rfl, ob_some]; exact hr.live _ rfl, op_fldP rfl, op_fldP rfl, ?_⟩
    rw [show peekN B (M.set x7 (.var oc)) 9 (pt x7) = some oc from peekVN (k3.cs _ _ updC_at) hl, ob_some]
    obtain ⟨L, hL⟩ := k3.pre
    rw [hL]
    refine tidy_none ?_
    by_cases h512 : (sns.length : Int) ≤ 512
    · rw [decide_eq_true h512]
      have := h1 (by rw [ha, decide_eq_true h512]; rfl) L
      rw [← e2] at this
      exact this
    · rw [decide_eq_false h512]
      exact h0 (by rw [decide_eq_false h512]; rfl) _ L
  | cons p rest ih =>
    intro i acc e1 e2 e3 e4
    obtain ⟨g1, g2, g3⟩ := drop_cons e1
    obtain ⟨row, hrow, hpr⟩ := at_some hfr g1
    have h7 : row.length = 3 := hr.1 row (List.mem_of_getElem? hrow)
    have hpo := hok.2 p (List.mem_of_getElem? g1)
    simp only [List.length_cons] at e4
    refine L45_12_in (ACall.cle B table) (op_fldP (op_fldP ?_))
    rw [z.p1 (v := v6) (i := 0 + 5 + 1) rfl, ob_some]
    refine hr.live _ ?_
    rw [hlen, ob_some]
    refine bs_yes (decide_eq_true (by omega)) (J45_11_in (op_fldP (op_fldP ?_)))
    rw [z.p1 (v := v6) (i := 0 + 5 + 1) rfl, ob_some]
    refine hr.live _ (op_idx hr (in_some hrow) ?_)
    rw [(hr.el hrow).peekN h7, ob_some]
    have hpl := spB_le hpo
    refine f75_ok hpr hpo (by omega) (fun hw s' => tuple_sb (J45_9_in ?_)) fun hw => tuple_sb (J45_9_in ?_)
    · rw [pBool_bool]
      refine bs_no rfl (ret45 z hl (h0 ?_ _))
      have : sns.any spW = true := by rw [← e3]; simp [hw]
      rw [this, Bool.or_true]
    · rw [pBool_bool]
      refine bs_yes rfl (J45_10_in ?_)
      rw [w64 (n := (i : Int) + 1) (by have := hok.1; omega)]
      refine ih (i + 1) _ g3 ?_ ?_ (by simp only [List.length_append]; omega)
      · rw [← e2, List.flatMap_cons, List.append_assoc]
      · rw [← e3]; simp [hw]
/-- The rows' bytes. -/
theorem bo_rws {rws : List (List Ent)} {s0 : List UInt8} (z : Z45 H M C x5 x7 x9 (cc9 er la ep v3 v4 v5 v6 v7 v8) oc) (n57 : x5 ≠ x7) (hl : oc.length = 9) (hp : RowsR B H v8 rws) (hok : rws.length ≤ 600 ∧ ∀ l, l ∈ rws → l.length ≤ 100)
    (h0 : (!decide ((rws.length : Int) ≤ 512) || rws.any rowW) = true → ∀ s' L, Q (.tuple [.str s', .agg oc, .bool false]) (H ++ L)) (h1 : (!decide ((rws.length : Int) ≤ 512) || rws.any rowW) = false → ∀ L, Q (.tuple [.str (s0 ++ rws.flatMap rowB), .agg oc, .bool true]) (H ++ L)) :
    ∀ (rest : List (List Ent)) (i : Nat) (acc : List UInt8), rws.drop i = rest → acc ++ rest.flatMap rowB = s0 ++ rws.flatMap rowB → rest.any rowW = rws.any rowW → acc.length + 220000 * rest.length ≤ 500000000000 → L45_19 B (Cl B) n (.str acc) (pt x5) (pt x7) (pt x9) (i : Int) M Q := by
  have hpM : RowsR B M v8 rws := by obtain ⟨L, hL⟩ := z.k.pre; rw [hL]; exact hp.pre
  obtain ⟨us, hr, hfr⟩ := hpM
  have hlen : lenOf v8 = some rws.length := by rw [hr.len, List.length_map, hfr.1]
  intro rest
  induction rest with
  | nil =>
    intro i acc e1 e2 e3 e4
    have hi := drop_nil e1
    simp only [List.flatMap_nil, List.append_nil] at e2
    refine L45_19_in (ACall.cle B table) (op_fldP ?_)
    rw [z.p1 (v := v8) (i := 0 + 8) rfl, ob_some]
    refine hr.live _ ?_
    rw [hlen, ob_some]
    refine bs_no (decide_eq_false (by omega)) (J45_20_in ?_)
    rw [show peekN B M 9 (pt x9) = some oc from peekVN (z.k.cs _ _ z.c3) hl, ob_some]
    refine op_fldP ?_
    rw [z.p1 (v := v8) (i := 0 + 8) rfl, ob_some]
    refine hr.live _ ?_
    rw [hlen, ob_some]
    have ha : rws.any rowW = false := by rw [← e3]; rfl
    refine ib_le ?_
    refine op_st (c := row3 0 0 0) (vs := oc) rfl hl (z.k.cs _ _ z.c2) (by simp [row3]) ?_
    have k3 := z.k.set z.c2 z.l2 (.var oc)
    have g5 := k3.cs x5 _ (by rw [updC_ne n57]; exact z.c1)
    rw [putAt_all (by rw [hl]; rfl)]
    refine ⟨ib_le rfl, rfl, by rw [peekV g5 (v := v8) rfl, ob_some]; exact hr.live _ rfl, op_fldP rfl, ?_⟩
    rw [show peekN B (M.set x7 (.var oc)) 9 (pt x7) = some oc from peekVN (k3.cs _ _ updC_at) hl, ob_some]
    obtain ⟨L, hL⟩ := k3.pre
    rw [hL]
    refine tidy_none ?_
    by_cases h512 : (rws.length : Int) ≤ 512
    · rw [decide_eq_true h512]
      have := h1 (by rw [ha, decide_eq_true h512]; rfl) L
      rw [← e2] at this
      exact this
    · rw [decide_eq_false h512]
      exact h0 (by rw [decide_eq_false h512]; rfl) _ L
  | cons l rest ih =>
    intro i acc e1 e2 e3 e4
    obtain ⟨g1, g2, g3⟩ := drop_cons e1
    obtain ⟨u, hu, hes⟩ := at_some hfr g1
    have hru : (us.map fun u => [u])[i]? = some [u] := by simp [hu]
    have hll := hok.2 l (List.mem_of_getElem? g1)
    have hlu : lenOf u = some l.length := by have := Sl.len hes; rwa [List.length_map] at this
    simp only [List.length_cons] at e4
    have hrl := rowB_le hll
    refine L45_19_in (ACall.cle B table) (op_fldP ?_)
    rw [z.p1 (v := v8) (i := 0 + 8) rfl, ob_some]
    refine hr.live _ ?_
    rw [hlen, ob_some]
    refine bs_yes (decide_eq_true (by omega)) (J45_18_in (op_fldP ?_))
    rw [z.p1 (v := v8) (i := 0 + 8) rfl, ob_some]
    refine hr.live _ (op_idx hr (in_some hru) ?_)
    rw [(hr.el hru).peek0 (v := u) rfl, ob_some]
    have any1 : rowW l = true → rws.any rowW = true := fun hw => by rw [← e3]; simp [hw]
    have bad : rowW l = true → ∀ a : List UInt8, J45_16 B (Cl B) n (.str acc) (pt x5) (pt x7) (pt x9) (i : Int) (.str a) (.bool true) M Q := fun hw a => J45_16_in (by
      rw [pBool_bool, if_pos rfl]
      exact ret45 z hl (h0 (by rw [any1 hw, Bool.or_true]) _))
    refine Sl.live hes _ (f31_ok hes (by omega) (by omega) (fun hw => tuple_sb (J45_17_in ?_)) fun hw s' => tuple_sb (J45_17_in ?_))
    · rw [pBool_bool]
      refine bs_yes rfl (op_fldP ?_)
      rw [z.p1 (v := v8) (i := 0 + 8) rfl, ob_some]
      refine hr.live _ (op_idx hr (in_some hru) ?_)
      rw [(hr.el hru).peek0 (v := u) rfl, ob_some]
      refine Sl.live hes _ ?_
      rw [hlu, ob_some]
      by_cases h64 : (l.length : Int) > 64
      · exact ib_gt_yes h64 (bad (by simp [rowW]; omega) _)
      · refine ib_gt_no h64 (J45_16_in ?_)
        have hw2 : rowW l = false := by
          have : (l.any fun e => !entR e) = false := hw
          simp [rowW, this]; omega
        rw [pBool_bool, if_neg (by decide), w64 (n := (i : Int) + 1) (by have := hok.1; omega)]
        have er : acc ++ putF l.length ++ entsB l = acc ++ rowB l := by unfold rowB; rw [List.append_assoc]; rfl
        rw [er]
        refine ih (i + 1) _ g3 ?_ ?_ (by simp only [List.length_append]; omega)
        · rw [← e2, List.flatMap_cons, List.append_assoc]
        · rw [← e3]; simp [hw2]
    · rw [pBool_bool]
      have hw2 : rowW l = true := by
        have : (l.any fun e => !entR e) = true := hw
        simp [rowW, this]
      exact bs_no rfl (bad hw2 s')
end
end
end Go.Am

/- The document's body of a reply; its Say. -/
namespace Go.Am
open Go

section
variable {B : Base} {n : Nat} {H G M : Heap} {C : Nat → Option AObj} {Q : AV → Heap → Prop} {s : List UInt8} {x5 x7 x9 : Nat} {c oc : List AV}

theorem onlyR_ok {k : Int} {r : Rpl} (h : RpOk r) : RpOk (onlyR k r) := by
  obtain ⟨o1, o2, o3, o4, o5, o6, o7, o8, o9⟩ := h
  have z : (0 : Int) ≤ 9223372036854775807 := by decide
  have nl : ([] : List UInt8).length ≤ 1000000 := Nat.zero_le _
  have n1 : ([] : List Pnt).length ≤ 600 ∧ ∀ p, p ∈ ([] : List Pnt) → PtOk p := ⟨Nat.zero_le _, fun _ h => by cases h⟩
  have n2 : ([] : List Spn).length ≤ 600 ∧ ∀ p, p ∈ ([] : List Spn) → SnOk p := ⟨Nat.zero_le _, fun _ h => by cases h⟩
  have n3 : ([] : List (List Ent)).length ≤ 600 ∧ ∀ l, l ∈ ([] : List (List Ent)) → l.length ≤ 100 := ⟨Nat.zero_le _, fun _ h => by cases h⟩
  unfold onlyR
  split
  · exact ⟨z, o2, z, nl, n1, nl, n2, nl, n3⟩
  split
  · exact ⟨z, z, z, o4, o5, nl, n2, nl, n3⟩
  split
  · exact ⟨z, z, z, nl, n1, o6, o7, nl, n3⟩
  split
  · exact ⟨z, z, o3, nl, n1, nl, n2, o8, n3⟩
  split
  · exact ⟨z, z, o3, nl, n1, nl, n2, o8, o9⟩
  · exact ⟨z, o2, o3, nl, n1, nl, n2, nl, n3⟩
theorem pts_nil : PtsR B H .nils [] := ⟨[], sl_nil, F2.nil⟩
theorem sns_nil : SnsR B H .nils [] := ⟨[], sl_nil, F2.nil⟩
theorem rws_nil : RowsR B H .nils [] := ⟨[], sl_nil, F2.nil⟩

theorem f45_ok {k : Int} {r : Rpl} (hr : RpR B H c r) (ho : RpOk r) (hk : 1 ≤ k ∧ k ≤ 6) (hs : s.length ≤ 1000) (hq : BoQ B H k r c s Q) : Cl B 45 [.str s, .int .i64 k, .agg c] H Q := by
  have hr0 := hr
  obtain ⟨v3, v4, v5, v6, v7, v8, rfl, r3, r4, r5, r6, r7, r8⟩ := hr
  obtain ⟨er, la, ep, psum, pts, ssum, sns, sum, rows⟩ := r
  have hro := ho
  obtain ⟨o1, o2, o3, o4, o5, o6, o7, o8, o9⟩ := ho
  simp only at r3 r4 r5 r6 r7 r8 o1 o2 o3 o4 o5 o6 o7 o8 o9
  refine f45_in fun n cl hn hcl hH hA => op_box rfl rfl (op_alloc ?_)
  subst hcl
  have k1 := (KW.zero (G := H)).add (.var (cc9 er la ep v3 v4 v5 v6 v7 v8))
  have k2 := k1.add (.var (row3 0 0 0))
  have c1 := keeps_add (o := .var (row3 0 0 0)) k1 _ _ updC_at
  have hl2 : H.length < (H ++ [AObj.var (cc9 er la ep v3 v4 v5 v6 v7 v8)]).length := by simp
  have c2 : updC (updC (fun _ => none) H.length (.var (cc9 er la ep v3 v4 v5 v6 v7 v8))) (H ++ [AObj.var (cc9 er la ep v3 v4 v5 v6 v7 v8)]).length (.var (row3 0 0 0)) (H ++ [AObj.var (cc9 er la ep v3 v4 v5 v6 v7 v8)]).length = some (.var (row3 0 0 0)) := updC_at
  have eG : H ++ [AObj.var [.int .i64 er, .int .i64 la, .int .i64 ep, v3, v4, v5, v6, v7, v8]] ++ [.var [.int .i64 0, .int .i64 0, .int .i64 0, .nils, .nils, .nils, .nils, .nils, .nils]] = H ++ [AObj.var (cc9 er la ep v3 v4 v5 v6 v7 v8)] ++ [.var (row3 0 0 0)] := rfl
  have eL : (H ++ [AObj.var [.int .i64 er, .int .i64 la, .int .i64 ep, v3, v4, v5, v6, v7, v8]]).length = (H ++ [AObj.var (cc9 er la ep v3 v4 v5 v6 v7 v8)]).length := rfl
  dsimp only
  rw [eG, eL]
  generalize (H ++ [AObj.var (cc9 er la ep v3 v4 v5 v6 v7 v8)]).length = x7 at k2 c1 c2 hl2 ⊢
  generalize updC (updC (fun _ => none) H.length (.var (cc9 er la ep v3 v4 v5 v6 v7 v8))) x7 (.var (row3 0 0 0)) = C2 at k2 c1 c2
  generalize H ++ [AObj.var (cc9 er la ep v3 v4 v5 v6 v7 v8)] ++ [AObj.var (row3 0 0 0)] = G2 at k2 ⊢
  refine J45_39_in ?_
  rw [show layParts [(.int .i64 0), (.int .i64 0), (.int .i64 0), .nils, .nils, .nils, .nils, .nils, .nils] [] = some (row3 0 0 0) from rfl, ob_some]
  refine op_alloc (op_st_last rfl rfl ?_)
  have hx2 := k2.lt c2
  have hx1 := k2.lt c1
  have z : Z45 H (G2 ++ [.var (row3 0 0 0)]) (updC C2 G2.length (.var (row3 0 0 0))) H.length x7 G2.length (cc9 er la ep v3 v4 v5 v6 v7 v8) (row3 0 0 0) :=
    ⟨k2.add _, keeps_add k2 _ _ c1, keeps_add k2 _ _ c2, updC_at, Nat.le_of_lt hl2, k2.le, by omega, by omega, trivial⟩
  have n57 : H.length ≠ x7 := by omega
  generalize updC C2 G2.length (.var (row3 0 0 0)) = C3 at z
  generalize G2.length = x9 at z ⊢
  generalize G2 ++ [AObj.var (row3 0 0 0)] = M at z ⊢
  have mT : Mono TT := fun _ _ _ _ => trivial
  have hB : ∀ {v : AV} {t : List UInt8} {M : Heap} {D : Nat → Option AObj}, KW H M D → Bs B H v t → Bs B M v t := fun {v t M D} k h => k.bs h
  refine J45_38_in (J45_32_in (ib_eq (J45_31_in ?_)))
  rw [pBool_bool]
  -- 1
  split
  · rename_i e
    have e := of_decide_eq_true e
    subst e
    refine op_fldP ?_
    rw [z.p1 (v := .int .i64 la) (i := 0 + 1) rfl, ob_some]
    refine int_i (op_fldP (z.put mT rfl (by simp [row3]) (cc' := row3 0 la 0) rfl fun z1 => J45_1_in (op_fldP ?_)))
    rw [z1.p1 (v := .int .i64 la) (i := 0 + 1) rfl, ob_some]
    refine int_i (f33_ok ?_)
    rw [pBool_bool]
    refine bs_iff.2 ⟨fun hn => J45_0_in (op_fldP ?_), fun hn => ret45 z1 rfl fun L => hq.1 (by simp [bodyW, hn]) _ _ _ L (rp3_ok' (by decide) o2 (by decide)) (fun N _ => rp3_r (e := 0) (l := la) (p := 0))⟩
    have ha : 0 ≤ la := by simp only [numOk, Bool.and_eq_true, decide_eq_true_eq] at hn; exact hn.1
    rw [z1.p1 (v := .int .i64 la) (i := 0 + 1) rfl, ob_some]
    refine int_i ?_
    rw [peekVN (n := 9) (z1.k.cs _ _ z1.c3) rfl, ob_some]
    refine f34_ok (by omega) ⟨ha, o2⟩ ?_
    rw [pStr_str]
    refine ⟨by rw [peekVN (n := 9) (z1.k.cs _ _ z1.c3) rfl]; rfl, ?_⟩
    have := ret45 (B := B) (n := n) (Q := Q) (b := true) (a := s ++ putF la.toNat) z1 rfl fun L => by
      have := hq.2 (by simp [bodyW, hn]) (row3 0 la 0) L (fun N _ => by show RpR B N (row3 0 la 0) (rp3 0 la 0); exact rp3_r)
      exact this
    rw [show peekN B (M.set x9 (.var (row3 0 la 0))) 9 (pt x9) = some (row3 0 la 0) from peekVN (z1.k.cs _ _ z1.c3) rfl, ob_some] at this
    exact this
  rename_i e1
  have e1 : ¬ k = 1 := fun e => e1 (decide_eq_true e)
  refine ib_eq (J45_30_in ?_)
  rw [pBool_bool]
  -- 2
  split
  · rename_i e
    have e := of_decide_eq_true e
    subst e
    refine op_fldP ?_
    rw [peekN_mid (i := 0 + 3) (m := 2) (a := [.int .i64 er, .int .i64 la, .int .i64 ep]) (c := [v3, v4]) (d := [v5, v6, v7, v8]) (z.k.cs _ _ z.c1) rfl rfl, ob_some]
    refine op_fldP (z.put2 mT rfl (by simp [row3]) (cc' := cc9 0 0 0 v3 v4 .nils .nils .nils .nils) rfl fun z1 => J45_8_in (op_fldP (op_fldP ?_)))
    have b3 := hB z1.k r3
    have b4 : PtsR B (M.set x9 (.var (cc9 0 0 0 v3 v4 .nils .nils .nils .nils))) v4 pts := by obtain ⟨L, hL⟩ := z1.k.pre; rw [hL]; exact r4.pre
    have l4 : lenOf v4 = some pts.length := by obtain ⟨rows, h1, h2⟩ := r4; rw [h1.len, h2.1]
    rw [z1.p1 (v := v3) (i := 0 + 3 + 0) rfl, ob_some]
    refine Sl.live b3 _ (op_toStr b3 (op_fldP (op_fldP ?_)))
    rw [z1.p1 (v := v4) (i := 0 + 3 + 1) rfl, ob_some]
    refine b4.live ?_
    have pp := putF_small psum.length (by omega)
    have pl := putF_small pts.length (by have := o5.1; omega)
    rw [l4, ob_some]
    refine f32_ok (by omega) o4 ?_
    rw [pStr_str]
    refine ⟨rfl, by rw [z1.p1 (v := v4) (i := 0 + 3 + 1) rfl, ob_some]; exact b4.live rfl, op_fldP rfl, op_fldP rfl, ?_⟩
    refine f34_ok (by simp only [List.length_append]; omega) (by have := o5.1; omega) ?_
    rw [pStr_str, Int.toNat_natCast]
    have rr : ∀ N, RpR B N (cc9 er la ep v3 v4 v5 v6 v7 v8) ⟨er, la, ep, psum, pts, ssum, sns, sum, rows⟩ → RpR B N (cc9 0 0 0 v3 v4 .nils .nils .nils .nils) (rq2 psum pts) := fun N h => by
          obtain ⟨w3, w4, w5, w6, w7, w8, e, h3, h4, h5, h6, h7, h8⟩ := h
          cases e
          exact ⟨v3, v4, .nils, .nils, .nils, .nils, rfl, h3, h4, Bs.nil, sns_nil, Bs.nil, rws_nil⟩
    refine J45_7_in (bo_pts (s0 := s ++ putF psum.length ++ psum ++ putF pts.length) z1 n57 rfl r4 o5 (fun hw s' L => hq.1 (by simpa [bodyW] using hw) _ _ _ L (onlyR_ok (k := 2) hro) rr) (fun hw L => ?_) pts 0 _ rfl rfl rfl (by have := o5.1; simp only [List.length_append]; omega))
    have := hq.2 (by simpa [bodyW] using hw) _ L rr
    simpa [bodyB, leafB] using this
  rename_i e2
  have e2 : ¬ k = 2 := fun e => e2 (decide_eq_true e)
  refine ib_eq (J45_29_in ?_)
  rw [pBool_bool]
  -- 3
  split
  · rename_i e
    have e := of_decide_eq_true e
    subst e
    refine op_fldP ?_
    rw [peekN_mid (i := 0 + 5) (m := 2) (a := [.int .i64 er, .int .i64 la, .int .i64 ep, v3, v4]) (c := [v5, v6]) (d := [v7, v8]) (z.k.cs _ _ z.c1) rfl rfl, ob_some]
    refine op_fldP (z.put2 mT rfl (by simp [row3]) (cc' := cc9 0 0 0 .nils .nils v5 v6 .nils .nils) rfl fun z1 => J45_15_in (op_fldP (op_fldP ?_)))
    have b3 := hB z1.k r5
    have b4 : SnsR B (M.set x9 (.var (cc9 0 0 0 .nils .nils v5 v6 .nils .nils))) v6 sns := by obtain ⟨L, hL⟩ := z1.k.pre; rw [hL]; exact r6.pre
    have l4 : lenOf v6 = some sns.length := by obtain ⟨rows, h1, h2⟩ := r6; rw [h1.len, h2.1]
    rw [z1.p1 (v := v5) (i := 0 + 5 + 0) rfl, ob_some]
    refine Sl.live b3 _ (op_toStr b3 (op_fldP (op_fldP ?_)))
    rw [z1.p1 (v := v6) (i := 0 + 5 + 1) rfl, ob_some]
    refine b4.live ?_
    have pp := putF_small ssum.length (by omega)
    have pl := putF_small sns.length (by have := o7.1; omega)
    rw [l4, ob_some]
    refine f32_ok (by omega) o6 ?_
    rw [pStr_str]
    refine ⟨rfl, by rw [z1.p1 (v := v6) (i := 0 + 5 + 1) rfl, ob_some]; exact b4.live rfl, op_fldP rfl, op_fldP rfl, ?_⟩
    refine f34_ok (by simp only [List.length_append]; omega) (by have := o7.1; omega) ?_
    rw [pStr_str, Int.toNat_natCast]
    have rr : ∀ N, RpR B N (cc9 er la ep v3 v4 v5 v6 v7 v8) ⟨er, la, ep, psum, pts, ssum, sns, sum, rows⟩ → RpR B N (cc9 0 0 0 .nils .nils v5 v6 .nils .nils) (rq3 ssum sns) := fun N h => by
          obtain ⟨w3, w4, w5, w6, w7, w8, e, h3, h4, h5, h6, h7, h8⟩ := h
          cases e
          exact ⟨.nils, .nils, v5, v6, .nils, .nils, rfl, Bs.nil, pts_nil, h5, h6, Bs.nil, rws_nil⟩
    refine J45_14_in (bo_sns (s0 := s ++ putF ssum.length ++ ssum ++ putF sns.length) z1 n57 rfl r6 o7 (fun hw s' L => hq.1 (by simpa [bodyW] using hw) _ _ _ L (onlyR_ok (k := 3) hro) rr) (fun hw L => ?_) sns 0 _ rfl rfl rfl (by have := o7.1; simp only [List.length_append]; omega))
    have := hq.2 (by simpa [bodyW] using hw) _ L rr
    simpa [bodyB, leafB] using this
  rename_i e3
  have e3 : ¬ k = 3 := fun e => e3 (decide_eq_true e)
  have mv : ∀ b : Bool, (b = true ↔ (k = 4 ∨ k = 5)) → J45_28 B (Cl B) n s k (pt H.length) (pt x7) (pt x9) (.bool b) M Q := fun b hb => by
    refine J45_28_in ?_
    rw [pBool_bool]
    split
    · rename_i e
      have k45 := hb.1 e
      have l8 : lenOf v8 = some rows.length := by obtain ⟨us, h1, h2⟩ := r8; rw [h1.len, List.length_map, h2.1]
      refine op_fldP ?_
      rw [z.p1 (v := .int .i64 ep) (i := 0 + 2) rfl, ob_some]
      refine int_i (op_fldP (z.put mT rfl (by simp [row3]) (cc' := cc9 0 0 ep .nils .nils .nils .nils .nils .nils) rfl fun z1 => J45_27_in (op_fldP ?_)))
      have b7 := hB z1.k r7
      rw [z1.p1 (v := v7) (i := 0 + 7) rfl, ob_some]
      refine Sl.live b7 _ (op_fldP (z1.put mT (bs_cells r7) (by simp) (cc' := cc9 0 0 ep .nils .nils .nils .nils v7 .nils) rfl fun z2 => J45_26_in (op_fldP ?_)))
      have r4' : ∀ N, RpR B N (cc9 er la ep v3 v4 v5 v6 v7 v8) ⟨er, la, ep, psum, pts, ssum, sns, sum, rows⟩ → RpR B N (cc9 0 0 ep .nils .nils .nils .nils v7 .nils) (rq5 ep sum []) := fun N h => by
          obtain ⟨w3, w4, w5, w6, w7, w8, e, h3, h4, h5, h6, h7, h8⟩ := h
          cases e
          exact ⟨.nils, .nils, .nils, .nils, v7, .nils, rfl, Bs.nil, pts_nil, Bs.nil, sns_nil, h7, rws_nil⟩
      have ok4 : RpOk (rq5 ep sum []) := onlyR_ok (k := 4) hro
      rw [z2.p1 (v := .int .i64 ep) (i := 0 + 2) rfl, ob_some]
      refine int_i (f33_ok ?_)
      rw [pBool_bool]
      refine bs_iff.2 ⟨fun hn => J45_25_in (op_fldP ?_), fun hn => ret45 z2 rfl fun L => hq.1 (by rcases k45 with rfl | rfl <;> simp [bodyW, hn]) _ _ _ L ok4 r4'⟩
      have ha : 0 ≤ ep := by simp only [numOk, Bool.and_eq_true, decide_eq_true_eq] at hn; exact hn.1
      have b72 := hB z2.k r7
      rw [z2.p1 (v := .int .i64 ep) (i := 0 + 2) rfl, ob_some]
      refine int_i (op_fldP ?_)
      rw [z2.p1 (v := v7) (i := 0 + 7) rfl, ob_some]
      refine Sl.live b72 _ (op_toStr b72 ?_)
      have pe := putF_small ep.toNat (by omega)
      have pp := putF_small sum.length (by omega)
      have pl := putF_small rows.length (by have := o9.1; omega)
      refine f34_ok (by omega) ⟨ha, o3⟩ ?_
      rw [pStr_str]
      refine ⟨op_toStr b72 rfl, by rw [z2.p1 (v := v7) (i := 0 + 7) rfl, ob_some]; exact Sl.live b72 _ rfl, op_fldP rfl, ?_⟩
      refine f32_ok (by simp only [List.length_append]; omega) o8 ?_
      rw [pStr_str]
      refine J45_24_in (bs_iff.2 ⟨fun e4 => ?_, fun e4 => J45_23_in (op_fldP ?_)⟩)
      · have e4 : k = 4 := by simpa using e4
        subst e4
        refine ret45 z2 rfl fun L => ?_
        have := hq.2 (by simp [bodyW, hn]) _ L r4'
        simpa [bodyB, leafB] using this
      · have e4 : ¬ k = 4 := by simpa using e4
        have e5 : k = 5 := by omega
        subst e5
        have b8 : RowsR B ((M.set x9 (.var (cc9 0 0 ep .nils .nils .nils .nils .nils .nils))).set x9 (.var (cc9 0 0 ep .nils .nils .nils .nils v7 .nils))) v8 rows := by obtain ⟨L, hL⟩ := z2.k.pre; rw [hL]; exact r8.pre
        have hc8 : v8.cells? = some [v8] := by
          obtain ⟨us, h1, _⟩ := r8
          obtain ⟨_, ⟨rfl, _⟩ | ⟨o, off, cap, rfl, _⟩⟩ := h1 <;> rfl
        rw [z2.p1 (v := v8) (i := 0 + 8) rfl, ob_some]
        refine b8.live (op_fldP (z2.put mT hc8 (by simp) (cc' := cc9 0 0 ep .nils .nils .nils .nils v7 v8) rfl fun z3 => J45_22_in (op_fldP ?_)))
        rw [z3.p1 (v := v8) (i := 0 + 8) rfl, ob_some]
        refine b8.live ?_
        rw [l8, ob_some]
        refine f34_ok (by simp only [List.length_append]; omega) (by have := o9.1; omega) ?_
        rw [pStr_str, Int.toNat_natCast]
        have rr : ∀ N, RpR B N (cc9 er la ep v3 v4 v5 v6 v7 v8) ⟨er, la, ep, psum, pts, ssum, sns, sum, rows⟩ → RpR B N (cc9 0 0 ep .nils .nils .nils .nils v7 v8) (rq5 ep sum rows) := fun N h => by
          obtain ⟨w3, w4, w5, w6, w7, w8, e, h3, h4, h5, h6, h7, h8⟩ := h
          cases e
          exact ⟨.nils, .nils, .nils, .nils, v7, v8, rfl, Bs.nil, pts_nil, Bs.nil, sns_nil, h7, h8⟩
        refine J45_21_in (bo_rws (s0 := s ++ putF ep.toNat ++ putF sum.length ++ sum ++ putF rows.length) z3 n57 rfl r8 o9 (fun hw s' L => hq.1 (by simpa [bodyW, hn] using hw) _ _ _ L (onlyR_ok (k := 5) hro) rr) (fun hw L => ?_) rows 0 _ rfl rfl rfl (by have := o9.1; simp only [List.length_append]; omega))
        have := hq.2 (by simpa [bodyW, hn] using hw) _ L rr
        simpa [bodyB, leafB] using this
    · rename_i e
      have k45 : ¬ (k = 4 ∨ k = 5) := fun h => e (hb.2 h)
      have e6 : k = 6 := by omega
      subst e6
      refine J45_37_in (op_fldP ?_)
      rw [z.p1 (v := .int .i64 la) (i := 0 + 1) rfl, ob_some]
      refine int_i (op_fldP (z.put mT rfl (by simp [row3]) (cc' := row3 0 la 0) rfl fun z1 => J45_36_in (op_fldP ?_)))
      rw [z1.p1 (v := .int .i64 ep) (i := 0 + 2) rfl, ob_some]
      refine int_i (op_fldP (z1.put mT rfl (by simp [row3]) (cc' := row3 0 la ep) rfl fun z2 => J45_35_in (op_fldP ?_)))
      have rr : ∀ N, RpR B N (cc9 er la ep v3 v4 v5 v6 v7 v8) ⟨er, la, ep, psum, pts, ssum, sns, sum, rows⟩ → RpR B N (row3 0 la ep) (rp3 0 la ep) := fun N _ => rp3_r
      have bad : (numOk la && numOk ep) = false → J45_33 B (Cl B) n s (pt H.length) (pt x7) (pt x9) (.bool true) ((M.set x9 (.var (row3 0 la 0))).set x9 (.var (row3 0 la ep))) Q := fun hw => J45_33_in (by
        rw [pBool_bool, if_pos rfl]
        refine ret45 z2 rfl fun L => hq.1 ?_ _ _ _ L (rp3_ok' (by decide) o2 o3) rr
        simp only [bodyW]
        cases h1 : numOk la <;> cases h2 : numOk ep <;> simp_all)
      rw [z2.p1 (v := .int .i64 la) (i := 0 + 1) rfl, ob_some]
      refine int_i (f33_ok ?_)
      rw [pBool_bool]
      refine bs_iff.2 ⟨fun hn => op_fldP ?_, fun hn => bad (by rw [hn]; rfl)⟩
      rw [z2.p1 (v := .int .i64 ep) (i := 0 + 2) rfl, ob_some]
      refine int_i (f33_ok (tyK_bool (op_notB ?_)))
      cases hn2 : numOk ep with
      | false => exact bad (by rw [hn2, Bool.and_false])
      | true =>
        have ha : 0 ≤ la := by simp only [numOk, Bool.and_eq_true, decide_eq_true_eq] at hn; exact hn.1
        have he : 0 ≤ ep := by simp only [numOk, Bool.and_eq_true, decide_eq_true_eq] at hn2; exact hn2.1
        have pla := putF_small la.toNat (by omega)
        refine J45_33_in ?_
        rw [pBool_bool, if_neg (by decide)]
        refine J45_34_in (op_fldP ?_)
        rw [z2.p1 (v := .int .i64 la) (i := 0 + 1) rfl, ob_some]
        refine int_i (op_fldP ?_)
        rw [z2.p1 (v := .int .i64 ep) (i := 0 + 2) rfl, ob_some]
        refine int_i ?_
        have pk : peekN B ((M.set x9 (.var (row3 0 la 0))).set x9 (.var (row3 0 la ep))) 9 (pt x9) = some (row3 0 la ep) := peekVN (z2.k.cs _ _ z2.c3) rfl
        rw [pk, ob_some]
        refine f34_ok (by omega) ⟨ha, o2⟩ ?_
        rw [pStr_str]
        refine ⟨by rw [pk]; rfl, by rw [z2.p1 (v := .int .i64 ep) (i := 0 + 2) rfl, ob_some]; exact int_i rfl, op_fldP rfl, ?_⟩
        refine f34_ok (by simp only [List.length_append]; omega) ⟨he, o3⟩ ?_
        rw [pStr_str]
        refine ⟨by rw [pk]; rfl, ?_⟩
        have := ret45 (B := B) (n := n) (Q := Q) (b := true) (a := s ++ putF la.toNat ++ putF ep.toNat) z2 rfl fun L => by
          have := hq.2 (by simp [bodyW, hn, hn2]) (row3 0 la ep) L rr
          simpa [bodyB] using this
        rw [pk, ob_some] at this
        exact this
  refine bs_iff.2 ⟨fun e4 => mv true ?_, fun e4 => ib_eq (mv _ ?_)⟩
  · have e4 : k = 4 := by simpa using e4
    simp [e4]
  · have e4 : ¬ k = 4 := by simpa using e4
    simp [e4]
end
end Go.Am

/- The document's Say. -/
namespace Go.Am
open Go

section
variable {B : Base} {n : Nat} {H G M : Heap} {C : Nat → Option AObj} {Q : AV → Heap → Prop} {c oc : List AV}

theorem only_eq {k : Int} {r : Rpl} (hk : 1 ≤ k ∧ k ≤ 6) (h0 : r.err = 0) : decide (onlyR k r = r) = emptyB k r := by
  obtain ⟨err, last, epoch, psum, pts, ssum, sns, sum, rows⟩ := r
  simp only at h0
  subst h0
  have k6 : k = 1 ∨ k = 2 ∨ k = 3 ∨ k = 4 ∨ k = 5 ∨ k = 6 := by omega
  rw [Bool.eq_iff_iff, decide_eq_true_eq]
  rcases k6 with rfl | rfl | rfl | rfl | rfl | rfl
  · rw [show onlyR 1 ⟨0, last, epoch, psum, pts, ssum, sns, sum, rows⟩ = ⟨0, last, 0, [], [], [], [], [], []⟩ from rfl]
    constructor
    · intro h; cases h; simp [emptyB, b1, b2, b3, b4, b5, b6]
    · intro h
      simp [emptyB, b1, b2, b3, b4, b5, b6] at h
      simp [h]
  · rw [show onlyR 2 ⟨0, last, epoch, psum, pts, ssum, sns, sum, rows⟩ = ⟨0, 0, 0, psum, pts, [], [], [], []⟩ from rfl]
    constructor
    · intro h; cases h; simp [emptyB, b1, b2, b3, b4, b5, b6]
    · intro h
      simp [emptyB, b1, b2, b3, b4, b5, b6] at h
      simp [h]
  · rw [show onlyR 3 ⟨0, last, epoch, psum, pts, ssum, sns, sum, rows⟩ = ⟨0, 0, 0, [], [], ssum, sns, [], []⟩ from rfl]
    constructor
    · intro h; cases h; simp [emptyB, b1, b2, b3, b4, b5, b6]
    · intro h
      simp [emptyB, b1, b2, b3, b4, b5, b6] at h
      simp [h]
  · rw [show onlyR 4 ⟨0, last, epoch, psum, pts, ssum, sns, sum, rows⟩ = ⟨0, 0, epoch, [], [], [], [], sum, []⟩ from rfl]
    constructor
    · intro h; cases h; simp [emptyB, b1, b2, b3, b4, b5, b6]
    · intro h
      simp [emptyB, b1, b2, b3, b4, b5, b6] at h
      simp [h]
  · rw [show onlyR 5 ⟨0, last, epoch, psum, pts, ssum, sns, sum, rows⟩ = ⟨0, 0, epoch, [], [], [], [], sum, rows⟩ from rfl]
    constructor
    · intro h; cases h; simp [emptyB, b1, b2, b3, b4, b5, b6]
    · intro h
      simp [emptyB, b1, b2, b3, b4, b5, b6] at h
      simp [h]
  · rw [show onlyR 6 ⟨0, last, epoch, psum, pts, ssum, sns, sum, rows⟩ = ⟨0, last, epoch, [], [], [], [], [], []⟩ from rfl]
    constructor
    · intro h; cases h; simp [emptyB, b1, b2, b3, b4, b5, b6]
    · intro h
      simp [emptyB, b1, b2, b3, b4, b5, b6] at h
      simp [h]
theorem only_err {r : Rpl} (h0 : r.err ≠ 0) : decide (rp3 r.err 0 0 = r) = emptyB 0 r := by
  obtain ⟨err, last, epoch, psum, pts, ssum, sns, sum, rows⟩ := r
  rw [Bool.eq_iff_iff, decide_eq_true_eq]
  rw [show rp3 err 0 0 = ⟨err, 0, 0, [], [], [], [], [], []⟩ from rfl]
  constructor
  · intro h; cases h; simp [emptyB, b1, b2, b3, b4, b5, b6]
  · intro h
    simp [emptyB, b1, b2, b3, b4, b5, b6] at h
    simp [h]
theorem low_si {a : List UInt8} {i : Int} : Low n (.tuple [.str a, .int .i64 i]) := by simp [Low, RV, RVL]

theorem f18_ok {k : Int} {r : Rpl} (hr : RpR B H c r) (ho : RpOk r) (h1 : sayW k r = true → Q (.tuple [.str [], .int .i64 1]) H) (h2 : sayW k r = false → Q (.tuple [.str (sayF k r), .int .i64 0]) H) : Cl B 18 [.int .i64 k, .agg c] H Q := by
  have hl := hr.nine
  have c0 : c[0 + 0]? = some (.int .i64 r.err) := by obtain ⟨_, _, _, _, _, _, rfl, _⟩ := hr; rfl
  have oe := ho.1
  refine f18_in fun n cl hn hcl hH hA => op_box rfl hl (J18_9_in ?_)
  subst hcl
  have k1 := (KW.zero (G := H)).add (.var c)
  have d3 : updC (fun _ => none) H.length (.var c) H.length = some (.var c) := updC_at
  generalize updC (fun _ => none) H.length (.var c) = C1 at k1 d3
  generalize H ++ [AObj.var c] = G at k1 ⊢
  have fin : ∀ {M : Heap} {D : Nat → Option AObj} (a : List UInt8) (i : Int), KW H M D → Q (.tuple [.str a, .int .i64 i]) H → tidyK n Q (.tuple [.str a, .int .i64 i]) M := fun {M D} a i k h => by
    obtain ⟨⟨L, rfl⟩, _⟩ := k
    exact tidy_drop hn hH low_si h
  have bad : ¬ (1 ≤ k ∧ k ≤ 6 ∧ 0 ≤ r.err ∧ r.err ≤ 10) → J18_0 B (Cl B) n k (pt H.length) (.bool true) G Q := fun hb => J18_0_in (by
    rw [pBool_bool, if_pos rfl]
    refine fin _ _ k1 (h1 ?_)
    have : (decide (1 ≤ k) && decide (k ≤ 6) && (decide (0 ≤ r.err) && decide (r.err ≤ 10))) = false := by
      cases hd : (decide (1 ≤ k) && decide (k ≤ 6) && (decide (0 ≤ r.err) && decide (r.err ≤ 10))) with
      | false => rfl
      | true => simp only [Bool.and_eq_true, decide_eq_true_eq] at hd; exact (hb ⟨hd.1.1, hd.1.2, hd.2.1, hd.2.2⟩).elim
    simp only [sayW, this]; rfl)
  refine bs_dec (fun _ => bad (by omega)) fun k1' => bs_dec (fun _ => bad (by omega)) fun k2' => op_fldP ?_
  rw [peekV (k1.cs _ _ d3) c0, ob_some, pInt_int]
  refine bs_dec (fun _ => bad (by omega)) fun k3' => op_fldP ?_
  rw [peekV (k1.cs _ _ d3) c0, ob_some, pInt_int]
  by_cases k4' : r.err > 10
  · exact ib_gt_yes k4' (bad (by omega))
  refine ib_gt_no k4' (J18_0_in ?_)
  rw [pBool_bool, if_neg (by decide)]
  have hg : (decide (1 ≤ k) && decide (k ≤ 6) && (decide (0 ≤ r.err) && decide (r.err ≤ 10))) = true := by
    simp only [Bool.and_eq_true, decide_eq_true_eq]; omega
  simp only [sayW, hg, Bool.not_true, Bool.false_or] at h1 h2
  refine J18_8_in (op_fldP ?_)
  rw [peekV (k1.cs _ _ d3) c0, ob_some]
  refine int_i ?_
  rw [show layParts [(.int .i64 0), (.int .i64 0), (.int .i64 0), .nils, .nils, .nils, .nils, .nils, .nils] [(0, 1, .int .i64 r.err)] = some (row3 r.err 0 0) from rfl, ob_some]
  refine op_alloc (op_st_last rfl rfl ?_)
  have k2 := k1.add (.var (row3 r.err 0 0))
  have e3 := keeps_add (o := .var (row3 r.err 0 0)) k1 _ _ d3
  have e6 : updC C1 G.length (.var (row3 r.err 0 0)) G.length = some (.var (row3 r.err 0 0)) := updC_at
  have hx : H.length < G.length := k1.lt d3
  generalize updC C1 G.length (.var (row3 r.err 0 0)) = C2 at k2 e3 e6
  generalize G.length = x6 at e6 hx ⊢
  generalize G ++ [AObj.var (row3 r.err 0 0)] = G2 at k2 ⊢
  refine J18_7_in (op_fldP ?_)
  rw [peekV (k2.cs _ _ e3) c0, ob_some]
  refine int_i (f34_ok (by simp) (by omega) ?_)
  rw [pStr_str, List.nil_append]
  have pe : (putF r.err.toNat).length ≤ 10 := putF_small _ (by omega)
  refine J18_6_in (J18_5_in (op_fldP ?_))
  rw [peekV (k2.cs _ _ e3) c0, ob_some]
  refine int_i (ib_eq (J18_1_in ?_))
  rw [pBool_bool]
  -- the last step
  have last : ∀ {M : Heap} {D : Nat → Option AObj} {oc : List AV} {ro : Rpl} (a : List UInt8) (b : Bool), KW H M D → D H.length = some (.var c) → D x6 = some (.var oc) → RpOk ro → (∀ N, RpR B N c r → RpR B N oc ro) → ((b && decide (ro = r)) = false → Q (.tuple [.str [], .int .i64 1]) H) → ((b && decide (ro = r)) = true → Q (.tuple [.str a, .int .i64 0]) H) → J18_4 B (Cl B) n (pt H.length) (pt x6) (.str a) (.bool b) M Q := fun {M D oc ro} a b k f3 f6 hro hrr hq1 hq2 => by
    have hrM : RpR B M c r := by obtain ⟨⟨L, rfl⟩, _⟩ := k; exact hr.pre'
    have hoM := hrr M hrM
    refine J18_4_in ?_
    rw [show peekN B M 9 (pt x6) = some oc from peekVN (k.cs _ _ f6) hoM.nine, ob_some, show peekN B M 9 (pt H.length) = some c from peekVN (k.cs _ _ f3) hl, ob_some]
    refine f19_ok hoM hrM hro ho (tyK_bool (J18_3_in ?_))
    rw [pBool_bool]
    refine bs_iff.2 ⟨fun hb => ?_, fun hb => fin _ _ k (hq1 (by rw [hb]; rfl))⟩
    rw [pBool_bool]
    exact bs_iff.2 ⟨fun he => J18_2_in (fin _ _ k (hq2 (by rw [hb, he]; rfl))), fun he => fin _ _ k (hq1 (by rw [he, Bool.and_false]))⟩
  split
  · rename_i e0
    have e0 := of_decide_eq_true e0
    rw [peekVN (n := 9) (k2.cs _ _ e3) hl, ob_some]
    have hr2 : RpR B G2 c r := by obtain ⟨⟨L, rfl⟩, _⟩ := k2; exact hr.pre'
    rw [if_pos e0] at h1 h2
    have step : ∀ (a : List UInt8) (oc : List AV) (ro : Rpl) (b : Bool) (L : List AObj), RpOk ro → (∀ N, RpR B N c r → RpR B N oc ro) → ((b && decide (ro = r)) = false → Q (.tuple [.str [], .int .i64 1]) H) → ((b && decide (ro = r)) = true → Q (.tuple [.str a, .int .i64 0]) H) →
        pLive (.tuple [.str a, .agg oc, .bool b]) fun v33 => (aop B E0 (G2 ++ L) (fun v34 _ => (aop B E0 (G2 ++ L) (fun v35 _ => (aop B E0 (G2 ++ L) (fun v36 _ => (aop B E0 (G2 ++ L) (fun v37 H38 => J18_4 B (Cl B) n (pt H.length) (pt x6) v34 v36 H38 Q) (.st 9 (.const (pt x6)) (.const (v35))))) (.extract (some .bool) 2 (.const (v33))))) (.extract none 1 (.const (v33))))) (.extract (some .str) 0 (.const (v33)))) := fun a oc ro b L hro hrr hq1 hq2 => by
      have hoc : oc.length = 9 := (hrr _ hr2).nine
      refine live_tuple (op_extS rfl (op_extA rfl (op_extB (b := b) rfl ?_)))
      have k3 := k2.grow L
      refine op_st (c := row3 r.err 0 0) (vs := oc) rfl hoc (k3.cs _ _ e6) (by simp [row3]) ?_
      rw [putAt_all (by rw [hoc]; rfl)]
      have k4 := k3.set e6 (Nat.le_of_lt hx) (.var oc)
      exact last a b k4 (by rw [updC_ne (by omega)]; exact e3) updC_at hro hrr hq1 hq2
    refine f45_ok hr2 ho ⟨by omega, by omega⟩ (by omega) ⟨fun hw s' oc ro L hro hrr => step s' oc ro false L hro hrr (fun _ => h1 (by rw [hw, Bool.or_true])) (fun e => by cases e), fun hw oc L hrr => step _ oc (onlyR k r) true L (onlyR_ok ho) hrr (fun e => h1 ?_) (fun e => ?_)⟩
    · rw [Bool.true_and, only_eq ⟨by omega, by omega⟩ e0] at e
      rw [e]; rfl
    · rw [Bool.true_and, only_eq ⟨by omega, by omega⟩ e0] at e
      have := h2 (by rw [e, hw]; rfl)
      simp only [sayF, if_pos e0] at this
      exact this
  · rename_i e0
    have e0 : ¬ r.err = 0 := fun e => e0 (decide_eq_true e)
    rw [if_neg e0] at h1 h2
    refine last _ true k2 e3 e6 (rp3_ok' oe (by decide) (by decide)) (fun N _ => rp3_r) (fun e => h1 ?_) fun e => ?_
    · rw [Bool.true_and, only_err e0] at e
      rw [e]; rfl
    · rw [Bool.true_and, only_err e0] at e
      have := h2 (by rw [e]; rfl)
      simp only [sayF, if_neg e0, List.append_nil] at this
      exact this
end
end Go.Am

/- The law WireSays: it holds. -/
namespace Go.Am
open Go

section
variable {B : Base} {n : Nat} {H G M : Heap} {Q : AV → Heap → Prop} {kind : Int} {c0 : List AV} {r : Rpl}

/-- A cut copy: memory only grows. -/
theorem cut_ok {K : AV → Heap → Prop} (hr : RpR B G c0 r) (hk : ∀ c L, RpR B (G ++ L) c (cutR r) → K (.agg c) (G ++ L)) : Cl B 16 [.agg c0] G K :=
  f16_ok hr fun c' G' C' k m => by
    have := m.sl (B := B) k
    obtain ⟨⟨L, rfl⟩, _⟩ := k
    exact hk c' L this

theorem says_end {t : List UInt8} {v : AV} {e : Int} (hb : Bs B M v t) (hq : ∀ G, Q (.bool true) G) : J4_0 B (Cl B) n (.bool true) v (.int .i64 e) (.str t) (.int .i64 e) (.bool true) M Q := by
  refine J4_0_in ?_
  rw [pGuard_bool, bs_true]
  refine op_toStr hb ?_
  rw [pStr_str, pStr_str]
  exact bs_yes (by simp) (int_i (int_i (bs_yes (by simp) (tidy_none (hq M)))))

theorem f4_ok (hr : RpR B H c0 r) (hi : RpIn r) (hq : ∀ G, Q (.bool true) G) : Cl B 4 [.int .i64 kind, .agg c0] H Q := by
  have hl0 := hr.nine
  have hor := cutR_ok hi
  refine f4_in fun n cl hn hcl hH hA => op_box rfl hl0 (J4_5_in ?_)
  subst hcl
  have g3 : (H ++ [AObj.var c0])[H.length]? = some (.var c0) := by rw [get_app0]; rfl
  have hr1 : RpR B (H ++ [AObj.var c0]) c0 r := hr.pre'
  generalize H ++ [AObj.var c0] = G at g3 hr1 ⊢
  refine f11_ok (tyK_bool (J4_4_in ?_))
  rw [peekVN (n := 9) g3 hl0, ob_some]
  refine cut_ok hr1 fun c1 L1 r1 => live_agg' (op_alloc (op_st_last rfl r1.nine ?_))
  have g6 : (G ++ L1 ++ [AObj.var c1])[(G ++ L1).length]? = some (.var c1) := by rw [get_app0]; rfl
  have g31 : (G ++ L1 ++ [AObj.var c1])[H.length]? = some (.var c0) := get_pre (get_pre g3)
  have r2 : RpR B (G ++ L1 ++ [AObj.var c1]) c1 (cutR r) := r1.pre'
  have hr2 : RpR B (G ++ L1 ++ [AObj.var c1]) c0 r := hr1.pre'.pre'
  generalize (G ++ L1).length = x6 at g6 ⊢
  generalize G ++ L1 ++ [AObj.var c1] = G1 at g6 g31 r2 hr2 ⊢
  refine J4_3_in ?_
  rw [peekVN (n := 9) g6 r2.nine, ob_some]
  -- behind the program's answer
  have rest : ∀ (v : AV) (e : Int) (t : List UInt8) (L : List AObj), Bs B (G1 ++ L) v t → (∀ M : Heap, (sayW kind (cutR r) = true → t = [] ∧ e = 1) ∧ (sayW kind (cutR r) = false → t = sayF kind (cutR r) ∧ e = 0)) → J4_2 B (Cl B) n kind (.ptr (some (.new H.length, 0))) (.bool true) (.ptr (some (.new x6, 0))) v (.int .i64 e) (G1 ++ L) Q := fun v e t L hb hte => by
    obtain ⟨ht, hf⟩ := hte []
    refine J4_2_in ?_
    rw [peekVN (n := 9) (get_pre g31) hl0, ob_some]
    refine cut_ok hr2.pre' fun c2 L2 r3 => live_agg' ?_
    have doc : ∀ (t2 : List UInt8) (e2 : Int), t2 = t → e2 = e → J4_1 B (Cl B) n (.ptr (some (.new H.length, 0))) (.bool true) (.ptr (some (.new x6, 0))) v (.int .i64 e) (.str t2) (.int .i64 e2) (G1 ++ L ++ L2) Q := fun t2 e2 h1 h2 => by
      subst h1 h2
      refine J4_1_in ?_
      rw [peekVN (n := 9) (get_pre (get_pre g6)) r2.nine, ob_some, peekVN (n := 9) (get_pre (get_pre g31)) hl0, ob_some]
      refine cut_ok hr2.pre'.pre' fun c3 L3 r4 => live_agg' ⟨by rw [peekVN (n := 9) (get_pre (get_pre (get_pre g6))) r2.nine]; rfl, ?_⟩
      refine f19_ok r2.pre'.pre'.pre' r4 hor hor (tyK_bool ?_)
      rw [decide_eq_true rfl]
      exact says_end hb.pre.pre hq
    refine f18_ok r3 hor (fun hw => ?_) fun hw => ?_
    · exact live_tuple (op_extS rfl (op_extI rfl (doc [] 1 (ht hw).1.symm (ht hw).2.symm)))
    · exact live_tuple (op_extS rfl (op_extI rfl (doc _ 0 (hf hw).1.symm (hf hw).2.symm)))
  refine f17_ok r2 hor (fun hw L => ?_) fun hw v L hv => ?_
  · exact op_ext2 (fun K hK => hK) (rest .nils 1 [] L Bs.nil fun _ => ⟨fun _ => ⟨rfl, rfl⟩, fun h => (by rw [hw] at h; cases h)⟩)
  · exact op_ext2 (fun K hK => Sl.live hv.bs K hK) (rest v 0 _ L hv.bs fun _ => ⟨fun h => (by rw [hw] at h; cases h), fun _ => ⟨rfl, rfl⟩⟩)
end
end Go.Am

/- Arguments of the laws: bytes, requests, replies. -/
namespace Go.Am
open Go Go.RowKit Go.Proofs

/-! ### Types -/
section
set_option maxRecDepth 100000
abbrev ckI : CK := .fl (.int .i64)
theorem ck_byte : ckinds Try.prog 8 5 = some ([Ty.int .u8].map .fl) := by kernel_rfl
theorem ck_ent : ckinds Try.prog 8 68 = some ([Ty.str, .str, .bool, .int .i64].map .fl) := by kernel_rfl
theorem ck_dig : ckinds Try.prog 8 126 = some ((List.replicate 32 (Ty.int .u8)).map .fl) := by kernel_rfl
theorem ck_pt : ckinds Try.prog 8 82 = some [.fl .bool, ckI, .sl 5, .sl 126, ckI, .sl 5, .sl 126] := by kernel_rfl
theorem ck_sn : ckinds Try.prog 8 86 = some [ckI, .sl 27, .sl 126] := by kernel_rfl
theorem ck_bytes : ckinds Try.prog 8 27 = some [.sl 5] := by kernel_rfl
theorem ck_ents : ckinds Try.prog 8 22 = some [.sl 68] := by kernel_rfl
theorem ck_rep : ckinds Try.prog 8 43 = some [ckI, ckI, ckI, .sl 5, .sl 82, .sl 5, .sl 86, .sl 5, .sl 22] := by kernel_rfl
theorem cw_byte : Try.prog.cellsOf 5 = 1 := by kernel_rfl
theorem cw_ent : Try.prog.cellsOf 68 = 4 := by kernel_rfl
theorem cw_dig : Try.prog.cellsOf 126 = 32 := by kernel_rfl
theorem cw_pt : Try.prog.cellsOf 82 = 7 := by kernel_rfl
theorem cw_sn : Try.prog.cellsOf 86 = 3 := by kernel_rfl
theorem cw_bytes : Try.prog.cellsOf 27 = 1 := by kernel_rfl
theorem cw_ents : Try.prog.cellsOf 22 = 1 := by kernel_rfl
end

theorem byte_of {u : AV} (h : avIs (.int .u8) u) : ∃ c : UInt8, u = .int .u8 (c.toNat : Int) := by
  obtain ⟨m, rfl, hw⟩ := h
  have : IntKind.u8.min ≤ m ∧ m ≤ IntKind.u8.max := by simpa [Lit.wf] using hw
  have e1 : IntKind.u8.max = 255 := by decide
  have e2 : IntKind.u8.min = 0 := by decide
  refine ⟨UInt8.ofNat m.toNat, ?_⟩
  rw [UInt8.toNat_ofNat_of_lt' (by show _ < 256; omega)]
  congr 1; omega
theorem int_of {u : AV} (h : avIs (.int .i64) u) : ∃ n : Int, u = .int .i64 n ∧ n ≤ 9223372036854775807 := by
  obtain ⟨m, rfl, hw⟩ := h
  have : IntKind.i64.min ≤ m ∧ m ≤ IntKind.i64.max := by simpa [Lit.wf] using hw
  have e1 : IntKind.i64.max = 9223372036854775807 := by decide
  exact ⟨m, rfl, by omega⟩
theorem bytes_of_row : ∀ (r : List AV), (∀ u, u ∈ r → avIs (.int .u8) u) → ∃ d : List UInt8, r = dg d ∧ d.length = r.length
  | [], _ => ⟨[], rfl, rfl⟩
  | u :: r, h => by
    obtain ⟨d, hd, hl⟩ := bytes_of_row r fun x hx => h x (List.mem_cons_of_mem _ hx)
    obtain ⟨c, rfl⟩ := byte_of (h u (List.mem_cons_self ..))
    exact ⟨c :: d, by rw [hd]; rfl, by simp [hl]⟩
theorem choose_list {α β : Type} {R : α → β → Prop} : ∀ (l : List α), (∀ x, x ∈ l → ∃ y, R x y) → ∃ m : List β, F2 R l m ∧ ∀ y, y ∈ m → ∃ x, x ∈ l ∧ R x y
  | [], _ => ⟨[], F2.nil, fun y hy => by cases hy⟩
  | x :: l, h => by
    obtain ⟨m, ⟨h1, h2⟩, h3⟩ := choose_list l fun x hx => h x (List.mem_cons_of_mem _ hx)
    obtain ⟨y, hy⟩ := h x (List.mem_cons_self ..)
    refine ⟨y :: m, ⟨by simp [h1], fun i a b ha hb => ?_⟩, fun z hz => ?_⟩
    · cases i with
      | zero => simp at ha hb; subst ha hb; exact hy
      | succ i => exact h2 i a b (by simpa using ha) (by simpa using hb)
    · rcases List.mem_cons.1 hz with rfl | hz
      · exact ⟨x, List.mem_cons_self .., hy⟩
      · obtain ⟨a, ha, hr⟩ := h3 z hz
        exact ⟨a, List.mem_cons_of_mem _ ha, hr⟩
theorem F2.map_eq {α β : Type} {f : β → α} : ∀ {l : List α} {m : List β}, F2 (fun x y => x = f y) l m → l = m.map f
  | [], [], _ => rfl
  | [], _ :: _, h => by have := h.1; simp at this
  | _ :: _, [], h => by have := h.1; simp at this
  | x :: l, y :: m, h => by
    have h0 := h.2 0 x y rfl rfl
    rw [F2.map_eq (f := f) (l := l) (m := m) ⟨by simpa using h.1, fun i a b ha hb => h.2 (i + 1) a b (by simpa using ha) (by simpa using hb)⟩, h0]
    rfl


section
variable {b0 : Nat} {W : World} {d : Nat} {u : AV}

theorem good_flat {e : Nat} {tys : List Ty} (hk : ckinds Try.prog 8 e = some (tys.map .fl)) (hc : Try.prog.cellsOf e = tys.length) (hp : 0 < tys.length) (h : GoodW Try.prog b0 W (d + 1) (.sl e) u) :
    capOK u ∧ ∃ rows, Sl (baseW Try.prog b0 W) [] tys.length u rows ∧ ∀ r, r ∈ rows → rowIs tys r := by
  obtain ⟨h0, rows, h1, h2⟩ := h _ hk (by simpa using hc) (by simpa using hp)
  refine ⟨h0, rows, by simpa using h1, fun r hr => ⟨by simpa using (h2 r hr).1, fun i t hi => ?_⟩⟩
  obtain ⟨w, hw, hg⟩ := (h2 r hr).2 i (.fl t) (by simp [hi])
  exact ⟨w, hw, hg.av⟩
theorem rowIs_all {t : Ty} {m : Nat} {r : List AV} (h : rowIs (List.replicate m t) r) : r.length = m ∧ ∀ u, u ∈ r → avIs t u := by
  have hl : r.length = m := by simpa using h.1
  refine ⟨hl, fun u hu => ?_⟩
  obtain ⟨i, hi⟩ := List.mem_iff_getElem?.1 hu
  have : i < m := by
    rcases Nat.lt_or_ge i r.length with h' | h'
    · omega
    · rw [List.getElem?_eq_none h'] at hi; cases hi
  obtain ⟨w, hw, ha⟩ := h.2 i t (by simp [List.getElem?_replicate, this])
  rw [hi] at hw; cases hw; exact ha
theorem good_bytes (h : GoodW Try.prog b0 W (d + 1) (.sl 5) u) : capOK u ∧ ∃ s, Bs (baseW Try.prog b0 W) [] u s := by
  obtain ⟨h0, rows, h1, h2⟩ := good_flat ck_byte cw_byte (by decide) h
  obtain ⟨s, ⟨hf, _⟩⟩ := choose_list (R := fun r c => r = brw c) rows fun r hr => by
    obtain ⟨g1, g2⟩ := rowIs_all (m := 1) (h2 r hr)
    match r, g1 with
    | [a], _ => obtain ⟨c, rfl⟩ := byte_of (g2 a (by simp)); exact ⟨c, rfl⟩
  exact ⟨h0, s, by rw [hf.map_eq] at h1; exact h1⟩
theorem good_path (h : GoodW Try.prog b0 W (d + 1) (.sl 126) u) : ∃ l, PathR (baseW Try.prog b0 W) [] u l ∧ ∀ x, x ∈ l → x.length = 32 := by
  obtain ⟨h0, rows, h1, h2⟩ := good_flat ck_dig (by rw [cw_dig]; rfl) (by decide) h
  obtain ⟨l, hf, hm⟩ := choose_list (R := fun r c => r = dg c ∧ c.length = 32) rows fun r hr => by
    obtain ⟨g1, g2⟩ := rowIs_all (h2 r hr)
    obtain ⟨d, hd, hl⟩ := bytes_of_row r g2
    exact ⟨d, hd, by omega⟩
  refine ⟨l, ?_, fun x hx => by obtain ⟨_, _, h⟩ := hm x hx; exact h.2⟩
  rw [(hf.mono fun _ _ h => h.1).map_eq (f := dg)] at h1
  exact h1
theorem ent_of {r : List AV} (h : rowIs [.str, .str, .bool, .int .i64] r) : ∃ e : Ent, r = e.row := by
  obtain ⟨hlen, hg⟩ := h
  obtain ⟨_, g0, k, rfl, _⟩ := hg 0 .str rfl
  obtain ⟨_, g1, v, rfl, _⟩ := hg 1 .str rfl
  obtain ⟨_, g2, b, rfl⟩ := hg 2 .bool rfl
  obtain ⟨_, g3, n, rfl, _⟩ := hg 3 (.int .i64) rfl
  match r, hlen, g0, g1, g2, g3 with
  | [a, b', c, d], _, g0, g1, g2, g3 =>
    simp at g0 g1 g2 g3
    subst g0 g1 g2 g3
    exact ⟨⟨k, v, b, n⟩, rfl⟩
theorem good_ents (h : GoodW Try.prog b0 W (d + 1) (.sl 68) u) : ∃ l, EsR (baseW Try.prog b0 W) [] u l := by
  obtain ⟨h0, rows, h1, h2⟩ := good_flat ck_ent cw_ent (by decide) h
  obtain ⟨l, hf, _⟩ := choose_list (R := fun r e => r = Ent.row e) rows fun r hr => ent_of (h2 r hr)
  exact ⟨l, by rw [hf.map_eq (f := Ent.row)] at h1; exact h1⟩
/-- A slice of slices. -/
theorem good_slices {e e2 : Nat} {α : Type} {R : AV → α → Prop} (hk : ckinds Try.prog 8 e = some [.sl e2]) (hc : Try.prog.cellsOf e = 1) (h : GoodW Try.prog b0 W (d + 1) (.sl e) u) (hR : ∀ w, GoodW Try.prog b0 W d (.sl e2) w → ∃ x, R w x) :
    ∃ us l, Sl (baseW Try.prog b0 W) [] 1 u (us.map fun u => [u]) ∧ F2 R us l := by
  obtain ⟨h0, rows, h1, h2⟩ := h _ hk hc (by simp)
  obtain ⟨us, hf, hm⟩ := choose_list (R := fun r w => r = [w] ∧ GoodW Try.prog b0 W d (.sl e2) w) rows fun r hr => by
    obtain ⟨g1, g2⟩ := h2 r hr
    obtain ⟨w, hw, hg⟩ := g2 0 _ rfl
    match r, g1 with
    | [a], _ => simp at hw; subst hw; exact ⟨a, rfl, hg⟩
  obtain ⟨l, hl, _⟩ := choose_list (R := R) us fun w hw => by obtain ⟨_, _, _, hg⟩ := hm w hw; exact hR w hg
  refine ⟨us, l, ?_, hl⟩
  rw [(hf.mono fun _ _ h => h.1).map_eq (f := fun u => [u])] at h1
  exact h1
/-- A slice of rows of which cells are slices. -/
theorem good_rows {e : Nat} {ks : List CK} {α : Type} {R : List AV → α → Prop} (hk : ckinds Try.prog 8 e = some ks) (hc : Try.prog.cellsOf e = ks.length) (hp : 0 < ks.length) (h : GoodW Try.prog b0 W (d + 1) (.sl e) u)
    (hR : ∀ r, r.length = ks.length → (∀ (j : Nat) k, ks[j]? = some k → ∃ w, r[j]? = some w ∧ GoodW Try.prog b0 W d k w) → ∃ x, R r x) : ∃ rows l, Sl (baseW Try.prog b0 W) [] ks.length u rows ∧ F2 R rows l ∧ ∀ x, x ∈ l → ∃ r, R r x := by
  obtain ⟨h0, rows, h1, h2⟩ := h _ hk hc hp
  obtain ⟨l, hl, hm⟩ := choose_list (R := R) rows fun r hr => hR r (h2 r hr).1 (h2 r hr).2
  exact ⟨rows, l, h1, hl, fun x hx => by obtain ⟨r, _, h⟩ := hm x hx; exact ⟨r, h⟩⟩

theorem good_pts (h : GoodW Try.prog b0 W (d + 2) (.sl 82) u) : ∃ l, PtsR (baseW Try.prog b0 W) [] u l ∧ ∀ p, p ∈ l → OnIn p.a ∧ OnIn p.b := by
  obtain ⟨rows, l, h1, h2, h3⟩ := good_rows (R := fun c p => PtR (baseW Try.prog b0 W) [] c p ∧ OnIn p.a ∧ OnIn p.b) ck_pt cw_pt (by decide) h fun r hr hg => by
    obtain ⟨u0, g0, a0⟩ := hg 0 _ rfl
    obtain ⟨u1, g1, a1⟩ := hg 1 _ rfl
    obtain ⟨u2, g2, a2⟩ := hg 2 _ rfl
    obtain ⟨u3, g3, a3⟩ := hg 3 _ rfl
    obtain ⟨u4, g4, a4⟩ := hg 4 _ rfl
    obtain ⟨u5, g5, a5⟩ := hg 5 _ rfl
    obtain ⟨u6, g6, a6⟩ := hg 6 _ rfl
    match r, hr with
    | [x0, x1, x2, x3, x4, x5, x6], _ =>
      simp at g0 g1 g2 g3 g4 g5 g6
      subst g0 g1 g2 g3 g4 g5 g6
      obtain ⟨b, rfl⟩ := a0.av
      obtain ⟨n1, rfl, m1⟩ := int_of a1.av
      obtain ⟨n4, rfl, m4⟩ := int_of a4.av
      obtain ⟨_, s2, b2⟩ := good_bytes a2
      obtain ⟨_, s5, b5⟩ := good_bytes a5
      obtain ⟨l3, p3, q3⟩ := good_path a3
      obtain ⟨l6, p6, q6⟩ := good_path a6
      exact ⟨⟨b, ⟨n1, s2, l3⟩, ⟨n4, s5, l6⟩⟩, ⟨_, _, rfl, ⟨x2, x3, rfl, b2, p3⟩, ⟨x5, x6, rfl, b5, p6⟩⟩, ⟨m1, q3⟩, ⟨m4, q6⟩⟩
  exact ⟨l, ⟨rows, h1, h2.mono fun _ _ h => h.1⟩, fun p hp => by obtain ⟨_, _, h⟩ := h3 p hp; exact h⟩
theorem good_sns (h : GoodW Try.prog b0 W (d + 3) (.sl 86) u) : ∃ l, SnsR (baseW Try.prog b0 W) [] u l ∧ ∀ x, x ∈ l → x.frm ≤ 9223372036854775807 ∧ ∀ d, d ∈ x.path → d.length = 32 := by
  obtain ⟨rows, l, h1, h2, h3⟩ := good_rows (R := fun c x => SnR (baseW Try.prog b0 W) [] c x ∧ x.frm ≤ 9223372036854775807 ∧ ∀ d, d ∈ x.path → d.length = 32) ck_sn cw_sn (by decide) h fun r hr hg => by
    obtain ⟨u0, g0, a0⟩ := hg 0 _ rfl
    obtain ⟨u1, g1, a1⟩ := hg 1 _ rfl
    obtain ⟨u2, g2, a2⟩ := hg 2 _ rfl
    match r, hr with
    | [x0, x1, x2], _ =>
      simp at g0 g1 g2
      subst g0 g1 g2
      obtain ⟨n0, rfl, m0⟩ := int_of a0.av
      obtain ⟨us, ts, b1, b2⟩ := good_slices (R := Bs (baseW Try.prog b0 W) []) ck_bytes cw_bytes a1 fun w hw => (good_bytes hw).2
      obtain ⟨l2, p2, q2⟩ := good_path a2
      exact ⟨⟨n0, ts, l2⟩, ⟨x1, x2, rfl, ⟨us, b1, b2⟩, p2⟩, m0, q2⟩
  exact ⟨l, ⟨rows, h1, h2.mono fun _ _ h => h.1⟩, fun p hp => by obtain ⟨_, _, h⟩ := h3 p hp; exact h⟩
theorem good_rws (h : GoodW Try.prog b0 W (d + 2) (.sl 22) u) : ∃ l, RowsR (baseW Try.prog b0 W) [] u l := by
  obtain ⟨us, l, h1, h2⟩ := good_slices (R := EsR (baseW Try.prog b0 W) []) ck_ents cw_ents h fun w hw => good_ents hw
  exact ⟨l, us, h1, h2⟩

theorem vrl_of {n : Nat} {m : Plcs} : ∀ (row : List AV) (cs : List Value), cs.length = row.length → (∀ (j : Nat) u, row[j]? = some u → ∃ x, cs[j]? = some x ∧ VR n m u x) → VRL n m row cs
  | [], [], _, _ => rfl
  | [], _ :: _, h, _ => by simp at h
  | u :: r, [], h, _ => by simp at h
  | u :: r, c :: cs, h, hg => by
    obtain ⟨x, hx, hv⟩ := hg 0 u rfl
    simp at hx; subst hx
    exact ⟨c, cs, rfl, hv, vrl_of r cs (by simpa using h) fun j u hj => by obtain ⟨x, hx, hv⟩ := hg (j + 1) u (by simpa using hj); exact ⟨x, by simpa using hx, hv⟩⟩
end

section
set_option maxRecDepth 100000
variable {X : Type} {enc : TypeId × Value → X} {W : World} {base b0 : Nat}

theorem has_zero {t : TypeId} {a : Addr} {len : Nat} (h : Cell.okWide Try.prog W .any base t (.slice (some a) len 0)) : ∃ (b : Nat) (c : Array Value) (e : TypeId) (f : Nat × Nat), W.heap[b]? = some (Obj.cells c e f) := by
  have key : Cell.ok Try.prog W .any base t (.slice (some a) len 0) := by
    unfold Cell.okWide at h
    split at h <;> first | exact h | (rename_i e _; cases e; done) | simp_all
  unfold Cell.ok at key
  have hs : ∀ {e : TypeId}, (len ≤ 0 ∧ ((0 : Nat) : Int) ≤ IntKind.i64.max ∧ W.has Try.prog .any base a e 0) → ∃ (b : Nat) (c : Array Value) (e : TypeId) (f : Nat × Nat), W.heap[b]? = some (Obj.cells c e f) := fun {e} h => by
    obtain ⟨_, _, _, _, r, c, h1, _⟩ := h
    unfold World.shape? at h1
    split at h1
    · rename_i c el fr hc; exact ⟨_, c, el, fr, hc⟩
    · cases h1
  split at key
  all_goals first | exact hs key | exact key.elim | (rename_i e; cases e; done) | (rename_i e _; cases e; done) | (rename_i e _ _; cases e; done) | skip
  all_goals
    rename_i hv
    cases hv
    exact hs key

abbrev HB (W : World) (b0 : Nat) : Prop := (∃ (b : Nat) (c : Array Value) (e : TypeId) (f : Nat × Nat), W.heap[b]? = some (Obj.cells c e f)) → HasB W b0
theorem has_b0 (W : World) : ∃ b0, HB W b0 := by
  by_cases h : ∃ (b : Nat) (c : Array Value) (e : TypeId) (f : Nat × Nat), W.heap[b]? = some (Obj.cells c e f)
  · obtain ⟨b, c, e, f, h⟩ := h
    exact ⟨b, fun _ => ⟨c, e, f, h⟩⟩
  · exact ⟨0, fun h' => absurd h' h⟩

/-- A struct among the arguments: its row. -/
theorem arg_struct {t : TypeId} {fs : Array Field} {ks : List CK} {v : Value} {d : DataW X} {p : List MemPlace} (hu : Try.prog.underlying t = some (.struct fs)) (hk : ckinds Try.prog 8 t = some ks) (hb0 : HB W b0)
    (hval : Value.okWide Try.prog W .any base t v) (hd : DataW.Trod enc Try.prog W 0 (fun _ => true) true t v d p) :
    ∃ row, VR 0 plc0 (.agg row) v ∧ row.length = ks.length ∧ ∀ (j : Nat) k, ks[j]? = some k → ∃ w, row[j]? = some w ∧ GoodW Try.prog b0 W 5 k w := by
  simp only [Value.okWide, hu] at hval
  obtain ⟨cs, rfl, hsz, ts, hts, _, hcell⟩ := hval
  obtain ⟨fuel, hf⟩ := hd
  have hz : ZeroB W b0 cs.toList := fun a len hm => by
    obtain ⟨i, hi⟩ := List.mem_iff_getElem?.1 hm
    obtain ⟨u, _, h⟩ := hcell i _ (by simpa using hi)
    exact hb0 (has_zero h)
  obtain ⟨h1, h2⟩ := trodW hb0 5 8 t ks fuel cs.toList _ hk hz hf
  obtain ⟨row, g1, g2, g3⟩ := row_of (l := ks) (cs := cs.toList) ks cs.toList h1 h2
  have sm := fun {k : CK} {i : Nat} (hi : ks[i]? = some k) => ckinds_small 8 _ ks hk k (List.mem_of_getElem? hi)
  refine ⟨row, ⟨fun w hw => ?_, cs, rfl, vrl_of row cs.toList (by omega) fun j u hj => ?_⟩, g1, g2⟩
  · obtain ⟨j, hj⟩ := List.mem_iff_getElem?.1 hw
    obtain ⟨k, x, hk', _, hv⟩ := g3 j w hj
    exact (bavW_ok (sm hk') hv).1
  · obtain ⟨k, x, hk', hx, hv⟩ := g3 j u hj
    exact ⟨x, hx, (bavW_ok (sm hk') hv).2⟩

theorem arg_reply {v : Value} {d : DataW X} {p : List MemPlace} (hb0 : HB W b0) (hval : Value.okWide Try.prog W .any base 43 v) (hd : DataW.Trod enc Try.prog W 0 (fun _ => true) true 43 v d p) :
    ∃ c r, VR 0 plc0 (.agg c) v ∧ RpR (baseW Try.prog b0 W) [] c r ∧ RpIn r := by
  obtain ⟨row, hv, hl, hg⟩ := arg_struct Try.underlying43 ck_rep hb0 hval hd
  obtain ⟨u0, g0, a0⟩ := hg 0 _ rfl
  obtain ⟨u1, g1, a1⟩ := hg 1 _ rfl
  obtain ⟨u2, g2, a2⟩ := hg 2 _ rfl
  obtain ⟨u3, g3, a3⟩ := hg 3 _ rfl
  obtain ⟨u4, g4, a4⟩ := hg 4 _ rfl
  obtain ⟨u5, g5, a5⟩ := hg 5 _ rfl
  obtain ⟨u6, g6, a6⟩ := hg 6 _ rfl
  obtain ⟨u7, g7, a7⟩ := hg 7 _ rfl
  obtain ⟨u8, g8, a8⟩ := hg 8 _ rfl
  match row, hl with
  | [x0, x1, x2, x3, x4, x5, x6, x7, x8], _ =>
    simp at g0 g1 g2 g3 g4 g5 g6 g7 g8
    subst g0 g1 g2 g3 g4 g5 g6 g7 g8
    obtain ⟨n0, rfl, m0⟩ := int_of a0.av
    obtain ⟨n1, rfl, m1⟩ := int_of a1.av
    obtain ⟨n2, rfl, m2⟩ := int_of a2.av
    obtain ⟨_, s3, b3⟩ := good_bytes a3
    obtain ⟨_, s5, b5⟩ := good_bytes a5
    obtain ⟨_, s7, b7⟩ := good_bytes a7
    obtain ⟨l4, p4, q4⟩ := good_pts a4
    obtain ⟨l6, p6, q6⟩ := good_sns a6
    obtain ⟨l8, p8⟩ := good_rws a8
    exact ⟨_, ⟨n0, n1, n2, s3, l4, s5, l6, s7, l8⟩, hv, ⟨x3, x4, x5, x6, x7, x8, rfl, b3, p4, b5, p6, b7, p8⟩, m0, m1, m2, q4, q6⟩

end
end Go.Am
