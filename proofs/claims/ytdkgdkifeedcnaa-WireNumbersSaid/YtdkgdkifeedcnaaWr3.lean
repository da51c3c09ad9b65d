/- The function Ask: what it answers to requests without entries. -/
import Derived.Test.YtdkgdkifeedcnaaWr2
namespace Go.Am
open Go

structure Req where
  kind : Int
  key : List UInt8
  lo : List UInt8
  hi : List UInt8
  epoch : Int
def Req.row (r : Req) : List AV := [.int .i64 r.kind, .nils, .str r.key, .str r.lo, .str r.hi, .int .i64 r.epoch]
/-- Is it wrong? (No entries; kinds but that of a batch.) -/
def w1 (r : Req) : Bool := !(r.kind == 2 || r.key == [])
def w2 (r : Req) : Bool := !(r.kind == 3 || (r.lo == [] && r.hi == []))
def w3 (r : Req) : Bool := !(r.kind == 4 || r.kind == 5 || r.epoch == 0)
def w4 (r : Req) : Bool := !decide (maxInts (r.key.length : Int) [(r.lo.length : Int), (r.hi.length : Int)] ≤ 128)
def askW (r : Req) : Bool := w1 r || w2 r || w3 r || w4 r || ((r.kind == 4 || r.kind == 5) && !numOk r.epoch)
def askF (r : Req) : List UInt8 := UInt8.ofNat r.kind.toNat :: (if r.kind = 2 then putF r.key.length ++ r.key else if r.kind = 3 then (putF r.lo.length ++ r.lo) ++ (putF r.hi.length ++ r.hi) else if r.kind = 4 ∨ r.kind = 5 then putF r.epoch.toNat else [])

section
variable {B : Base} {n : Nat} {H G : Heap} {Q : AV → Heap → Prop} {r : Req} {s : List UInt8} {wr : Bool}

theorem f13_done (h : St B H G r.row (H.length + 2) s wr) (h1 : wr = true → ∀ L, Q (.tuple [.nils, .int .i64 1]) (H ++ L)) (h2 : wr = false → ∀ v L, Bs B (H ++ L) v s → Q (.tuple [v, .int .i64 0]) (H ++ L)) : J13_5 B (Cl B) n (wp (H.length + 2)) G Q := by
  obtain ⟨L, hL⟩ := h.pre
  subst hL
  refine J13_5_in (h.done (fun e => ?_) fun e v hv => ?_)
  · exact op_ext2 (fun K hK => hK) (tidy_none (h1 e L))
  · exact op_ext2 (fun K hK => Sl.live hv K hK) (tidy_none (h2 e v L hv))

/-- The switch. -/
theorem f13_switch (h : St B H G r.row (H.length + 2) [UInt8.ofNat r.kind.toNat] wr) (hk : 2 ≤ r.kind ∧ r.kind ≤ 6) (hx : r.epoch ≤ 9223372036854775807) (hkl : r.key.length ≤ 1000 ∧ r.lo.length ≤ 1000 ∧ r.hi.length ≤ 1000)
    (h1 : (wr || ((r.kind == 4 || r.kind == 5) && !numOk r.epoch)) = true → ∀ L, Q (.tuple [.nils, .int .i64 1]) (H ++ L))
    (h2 : (wr || ((r.kind == 4 || r.kind == 5) && !numOk r.epoch)) = false → ∀ v L, Bs B (H ++ L) v (askF r) → Q (.tuple [v, .int .i64 0]) (H ++ L)) : J13_6 B (Cl B) n (wp H.length) (wp (H.length + 2)) G Q := by
  refine J13_6_in (h.fld (v := .int .i64 r.kind) (off := 0) rfl fun p => ?_)
  rw [p, ob_some, pInt_int]
  refine J13_4_in (ib_eq_no (by omega) (J13_3_in ?_))
  rw [pBool_bool, if_neg (by simp)]
  by_cases e2 : r.kind = 2
  · refine ib_eq_yes e2 (J13_2_in ?_)
    rw [pBool_bool, if_pos rfl]
    have hn4 : ((r.kind == 4 || r.kind == 5) && !numOk r.epoch) = false := by rw [e2]; rfl
    refine h.fld (v := .str r.key) (off := 2) rfl fun p => ?_
    rw [p, ob_some, pStr_str]
    refine h.text (by simp) (by omega) fun G' h' => f13_done h' (fun e => h1 (by rw [hn4, Bool.or_false]; exact e)) fun e => ?_
    have := h2 (by rw [hn4, Bool.or_false]; exact e)
    simp only [askF, if_pos e2] at this
    exact this
  refine ib_eq_no e2 (J13_2_in ?_)
  rw [pBool_bool, if_neg (by simp)]
  by_cases e3 : r.kind = 3
  · refine bs_yes (by simp [e3]) (h.fld (v := .str r.lo) (off := 3) rfl fun p => ?_)
    have hn4 : ((r.kind == 4 || r.kind == 5) && !numOk r.epoch) = false := by rw [e3]; rfl
    rw [p, ob_some, pStr_str]
    refine h.text (by simp) (by omega) fun G' h' => h'.fld (v := .str r.hi) (off := 4) rfl fun p => ?_
    rw [p, ob_some, pStr_str]
    have hpl : (putF r.lo.length).length ≤ r.lo.length + 1 := putF_len _
    refine h'.text (by simp; omega) (by omega) fun G2 h2' => f13_done h2' (fun e => h1 (by rw [hn4, Bool.or_false]; exact e)) fun e => ?_
    have := h2 (by rw [hn4, Bool.or_false]; exact e)
    simp only [askF, if_neg e2, if_pos e3] at this
    simpa using this
  refine bs_no (by simp [e3]) ?_
  have goJ : ∀ c : Bool, c = (r.kind == 4 || r.kind == 5) → J13_1 B (Cl B) n (wp H.length) (wp (H.length + 2)) (.bool c) G Q := fun c hc => by
    refine J13_1_in ?_
    rw [pBool_bool]
    rw [← hc] at h1 h2
    by_cases c1 : c = true
    · rw [if_pos c1]
      rw [c1, Bool.true_and] at h1 h2
      refine h.fld (v := .int .i64 r.epoch) (off := 5) rfl fun p => ?_
      rw [p, ob_some, pInt_int]
      refine h.num (by simp) hx fun G' h' => f13_done h' h1 fun e => ?_
      have := h2 e
      have hor : r.kind = 4 ∨ r.kind = 5 := by rw [c1] at hc; simpa using hc.symm
      simp only [askF, if_neg e2, if_neg e3, if_pos hor] at this
      exact this
    · rw [if_neg c1]
      have c0 : c = false := by simpa using c1
      rw [c0, Bool.false_and, Bool.or_false] at h1 h2
      refine f13_done h h1 fun e => ?_
      have := h2 e
      have hor : ¬ (r.kind = 4 ∨ r.kind = 5) := by rw [c0] at hc; simpa using hc.symm
      simp only [askF, if_neg e2, if_neg e3, if_neg hor] at this
      exact this
  refine bs_iff.2 ⟨fun h4 => goJ true (by rw [h4]; rfl), fun h4 => ib_eqq (goJ _ (by rw [h4]; rfl))⟩

theorem f13_ok (hk : 2 ≤ r.kind ∧ r.kind ≤ 6) (hx : r.epoch ≤ 9223372036854775807) (hkl : r.key.length ≤ 1000 ∧ r.lo.length ≤ 1000 ∧ r.hi.length ≤ 1000)
    (h1 : askW r = true → ∀ L, Q (.tuple [.nils, .int .i64 1]) (H ++ L)) (h2 : askW r = false → ∀ v L, Bs B (H ++ L) v (askF r) → Q (.tuple [v, .int .i64 0]) (H ++ L)) : Cl B 13 [.agg r.row] H Q := by
  refine f13_in fun n cl hn hcl hH hA => op_box rfl rfl (J13_13_in ?_)
  subst hcl
  refine op_fldP ?_
  rw [peekV (v := .int .i64 r.kind) (i := 0 + 0) (c := r.row) (by rw [get_app0]; rfl) rfl, ob_some, pInt_int]
  have eb : IntKind.u8.wrap r.kind = (((UInt8.ofNat r.kind.toNat).toNat : Nat) : Int) := by
    rw [IntWalk.u8_in _ (by omega), UInt8.toNat_ofNat_of_lt' (by show _ < 256; omega)]; omega
  rw [eb, show layParts [(.int .u8 0)] [(0, 1, .int .u8 (((UInt8.ofNat r.kind.toNat).toNat : Nat) : Int))] = some (brw (UInt8.ofNat r.kind.toNat)) from rfl, ob_some]
  refine slK_in ?_
  rw [show ∀ v : AV, layParts [.nils, (.bool false)] [(0, 1, v)] = layParts [.nils, (.bool false)] [(0, 1, v)] from fun _ => rfl]
  have e1 : (H ++ [AObj.var r.row]).length = H.length + 1 := by simp
  rw [e1, show layParts [.nils, (.bool false)] [(0, 1, .slice (.new (H.length + 1)) 0 1 1 (some 1))] = some [.slice (.new (H.length + 1)) 0 1 1 (some 1), .bool false] from rfl, ob_some]
  refine op_box rfl rfl ?_
  have e2 : (H ++ [AObj.var r.row] ++ [AObj.arr (brw (UInt8.ofNat r.kind.toNat))]).length = H.length + 2 := by simp
  rw [e2]
  have st : St B H (H ++ [AObj.var r.row] ++ [.arr (brw (UInt8.ofNat r.kind.toNat))] ++ [.var [.slice (.new (H.length + 1)) 0 1 1 (some 1), .bool false]]) r.row (H.length + 2) [UInt8.ofNat r.kind.toNat] false := by
    refine ⟨⟨[.var r.row, .arr (brw (UInt8.ofNat r.kind.toNat)), .var [.slice (.new (H.length + 1)) 0 1 1 (some 1), .bool false]], by simp⟩, ?_, ⟨.slice (.new (H.length + 1)) 0 1 1 (some 1), ?_, ?_⟩, by omega⟩
    · rw [List.append_assoc, List.append_assoc, get_app0]; rfl
    · show _ = _
      rw [List.append_assoc, List.append_assoc, get_app]; rfl
    · refine ⟨brws_len _, .inr ⟨_, _, _, rfl, cellsAt_iff'.2 ⟨brw (UInt8.ofNat r.kind.toNat), ?_, by simp [brw], rfl⟩⟩⟩
      simp only [cellsOf]
      rw [List.append_assoc, List.append_assoc, get_app]; rfl
  generalize H ++ [AObj.var r.row] ++ [.arr (brw (UInt8.ofNat r.kind.toNat))] ++ [.var [.slice (.new (H.length + 1)) 0 1 1 (some 1), .bool false]] = G at st
  -- the kind
  refine J13_12_in (st.fld (v := .int .i64 r.kind) (off := 0) rfl fun p => ?_)
  rw [p, ob_some, pInt_int]
  refine bs_yes (by simp; omega) (st.fld (v := .int .i64 r.kind) (off := 0) rfl fun p => ?_)
  rw [p, ob_some, pInt_int]
  refine ib_le (st.must fun G1 st => ?_)
  rw [decide_eq_true hk.2] at st
  refine J13_11_in (st.fld (v := .int .i64 r.kind) (off := 0) rfl fun p => ?_)
  rw [p, ob_some, pInt_int]
  refine bs_no (by simp; omega) (st.fld (v := .nils) (off := 1) rfl fun p => ?_)
  rw [p, ob_some]
  refine live_nils _ ?_
  rw [show lenOf AV.nils = some 0 from rfl, ob_some]
  refine ib_eq_yes rfl (st.must fun G2 st => ?_)
  have st1 : St B H G2 r.row (H.length + 2) [UInt8.ofNat r.kind.toNat] false := st
  -- the key
  have k1 : ∀ c : Bool, c = !(w1 r) → Cl B 25 [wp (H.length + 2), .bool c] G2 fun v G' => pLive v fun _ => J13_9 B (Cl B) n (wp H.length) (wp (H.length + 2)) G' Q := fun c hc => st1.must fun G3 st3 => by
    subst hc
    rw [Bool.not_not, Bool.false_or] at st3
    have k2 : ∀ c : Bool, c = !(w2 r) → Cl B 25 [wp (H.length + 2), .bool c] G3 fun v G' => pLive v fun _ => J13_8 B (Cl B) n (wp H.length) (wp (H.length + 2)) G' Q := fun c hc => st3.must fun G4 st4 => by
      subst hc
      rw [Bool.not_not] at st4
      have k3 : ∀ c : Bool, c = !(w3 r) → Cl B 25 [wp (H.length + 2), .bool c] G4 fun v G' => pLive v fun _ => J13_7 B (Cl B) n (wp H.length) (wp (H.length + 2)) G' Q := fun c hc => st4.must fun G5 st5 => by
        subst hc
        rw [Bool.not_not] at st5
        refine J13_7_in (st5.fld (v := .str r.key) (off := 2) rfl fun p => ?_)
        rw [p, ob_some, pStr_str]
        refine st5.fld (v := .str r.lo) (off := 3) rfl fun p => ?_
        rw [p, ob_some, pStr_str]
        refine st5.fld (v := .str r.hi) (off := 4) rfl fun p => ?_
        rw [p, ob_some, pStr_str]
        refine ib_le (st5.must fun G6 st6 => ?_)
        exact f13_switch st6 hk hx hkl h1 h2
      refine J13_8_in (st4.fld (v := .int .i64 r.kind) (off := 0) rfl fun p => ?_)
      rw [p, ob_some, pInt_int]
      refine bs_iff.2 ⟨fun h4 => k3 true (by simp only [w3]; rw [h4]; rfl), fun h4 => st4.fld (v := .int .i64 r.kind) (off := 0) rfl fun p => ?_⟩
      rw [p, ob_some, pInt_int]
      refine bs_iff.2 ⟨fun h5 => k3 true (by simp only [w3]; rw [h5]; simp), fun h5 => st4.fld (v := .int .i64 r.epoch) (off := 5) rfl fun p => ?_⟩
      rw [p, ob_some, pInt_int]
      exact ib_eqq (k3 _ (by simp only [w3]; rw [h4, h5]; simp))
    refine J13_9_in (st3.fld (v := .int .i64 r.kind) (off := 0) rfl fun p => ?_)
    rw [p, ob_some, pInt_int]
    refine bs_iff.2 ⟨fun h3 => k2 true (by simp only [w2]; rw [h3]; rfl), fun h3 => st3.fld (v := .str r.lo) (off := 3) rfl fun p => ?_⟩
    rw [p, ob_some, pStr_str, pStr_str]
    refine bs_iff.2 ⟨fun hl => st3.fld (v := .str r.hi) (off := 4) rfl fun p => ?_, fun hl => k2 false (by simp only [w2]; rw [h3, hl]; rfl)⟩
    rw [p, ob_some, pStr_str, pStr_str]
    exact bool_split (K := fun v => Cl B 25 [wp (H.length + 2), v] G3 fun v G' => pLive v fun _ => J13_8 B (Cl B) n (wp H.length) (wp (H.length + 2)) G' Q) (k2 _ (by simp only [w2]; rw [h3, hl]; simp))
  refine J13_10_in (st1.fld (v := .int .i64 r.kind) (off := 0) rfl fun p => ?_)
  rw [p, ob_some, pInt_int]
  refine bs_iff.2 ⟨fun h3 => k1 true (by simp only [w1]; rw [h3]; rfl), fun h3 => st1.fld (v := .str r.key) (off := 2) rfl fun p => ?_⟩
  rw [p, ob_some, pStr_str, pStr_str]
  exact bool_split (K := fun v => Cl B 25 [wp (H.length + 2), v] G2 fun v G' => pLive v fun _ => J13_9 B (Cl B) n (wp H.length) (wp (H.length + 2)) G' Q) (k1 _ (by simp only [w1]; rw [h3]; simp))
end

end Go.Am
