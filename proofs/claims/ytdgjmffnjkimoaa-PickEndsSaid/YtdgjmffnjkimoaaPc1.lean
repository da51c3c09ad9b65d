/- The law PickCounts: its walk, as far as the tables. -/
import Derived.Test.YtdgjmffnjkimoaaPh1
import Derived.Test.YtdgjmffnjkimoaaAg8
import Derived.KernelRfl
namespace Go.Am
open Go

def keyC (lv i : Nat) : List UInt8 := [UInt8.ofNat (97 + lv), UInt8.ofNat i]
def mkC (lv i : Nat) : Tab := tab lv 1 (keyC lv i) (keyC lv i)
def mkL (lv k : Nat) : List Tab := (List.range k).map (mkC lv)
theorem mkL_succ (lv k : Nat) : mkL lv (k + 1) = mkL lv k ++ [mkC lv k] := by simp [mkL, List.range_succ]
theorem mkL_len (lv k : Nat) : (mkL lv k).length = k := by simp [mkL]
theorem mkL_ok (lv k : Nat) : ∀ t ∈ mkL lv k, t.Ok := fun t ht => by
  obtain ⟨i, _, rfl⟩ := List.mem_map.1 ht
  exact tab_ok _ _ _ _
theorem ok_app {a b : List Tab} (ha : ∀ t ∈ a, t.Ok) (hb : ∀ t ∈ b, t.Ok) : ∀ t ∈ a ++ b, t.Ok := fun t ht => (List.mem_append.1 ht).elim (ha t) (hb t)

theorem layC {lv i : Nat} (hlv : lv < 4) (hi : i < 50) : layParts [(.int .u8 0), (.int .u8 0)] [(0, 1, .int .u8 (IntKind.u8.wrap (97 + IntKind.u8.wrap (lv : Int)))), (1, 1, .int .u8 (IntKind.u8.wrap (i : Int)))] = some [.int .u8 ((97 + lv : Nat) : Int), .int .u8 (i : Int)] := by
  rw [IntWalk.u8_in (lv : Int) (by omega), IntWalk.u8_in (97 + (lv : Int)) (by omega), IntWalk.u8_in (i : Int) (by omega)]
  simp [layParts, AV.cells?, putAt]
theorem op_strC {B : Base} {G : Heap} {K : AV → Heap → Prop} {lv i : Nat} (h : K (.str (keyC lv i)) (G ++ [.arr [.int .u8 ((97 + lv : Nat) : Int), .int .u8 (i : Int)]])) :
    aop B E0 (G ++ [.arr [.int .u8 ((97 + lv : Nat) : Int), .int .u8 (i : Int)]]) K (.toStr (.const (.slice (.new G.length) 0 2 1 (some 2)))) := by
  have e : elemsOf B (G ++ [.arr [.int .u8 ((97 + lv : Nat) : Int), .int .u8 (i : Int)]]) (.slice (.new G.length) 0 2 1 (some 2)) = some [.int .u8 ((97 + lv : Nat) : Int), .int .u8 (i : Int)] :=
    cellsAt_iff'.2 ⟨[.int .u8 ((97 + lv : Nat) : Int), .int .u8 (i : Int)], by simp only [cellsOf, get_app0]; rfl, by simp, rfl⟩
  simp only [aop, opK, Opd.look, ob_some, e]
  exact h

section
variable {B : Base} {n : Nat} {H : Heap} {Q : AV → Heap → Prop} {ns : List Nat}

abbrev X10 (H : Heap) : AV := .slice (.new H.length) 0 4 1 (some 4)
abbrev nO (ns : List Nat) : AObj := .arr (ns.map irow).flatten
theorem ns_sl {L : Heap} (hl : ns.length = 4) : Sl B (H ++ nO ns :: L) 1 (X10 H) (ns.map irow) :=
  ⟨irows_len ns, .inr ⟨_, _, _, by rw [List.length_map, hl], cellsAt_iff'.2 ⟨(ns.map irow).flatten, by simp only [cellsOf, get_app0]; rfl, by rw [flatten_len (irows_len ns)]; omega, by
    rw [List.drop_zero, ← flatten_len (irows_len ns), List.take_length]⟩⟩⟩
theorem ns_flat (hl : ns.length = 4) : flatO (nO ns) := by
  have h := irows_flat ns
  have hne : ns.map irow ≠ [] := fun e => by have := congrArg List.length e; simp [hl] at this
  simpa [growO, hne] using h
theorem x10_low (hn : n = H.length) {g : Nat → Nat} {m : Nat} (hm : n < m) (hg : g 0 = 0) : RV (pick n g) m (X10 H) (X10 H) := by
  subst hn
  refine ⟨hm, ?_⟩
  simp only [Id.ren]; rw [pick_at0, hg]; rfl

set_option maxRecDepth 100000 in
theorem f8_inner {lv cnt : Nat} {pre : List Tab} (hn : n = H.length) (hH : LowH n H) (hl : ns.length = 4) (hlv : lv < 4) (hpre : ∀ t ∈ pre, t.Ok) (hb : pre.length ≤ 500) (hc : ns[lv]? = some cnt) (h50 : cnt < 50)
    (h : J8_4 B (Cl B) n (.bool true) (X10 H) (growV (H.length + 1) 36 ((pre ++ mkL lv cnt).map Tab.row)) (lv : Int) (H ++ [nO ns, growO ((pre ++ mkL lv cnt).map Tab.row)]) Q) :
    ∀ (k i : Nat), i + k = cnt → L8_3 B (Cl B) n (.bool true) (X10 H) (growV (H.length + 1) 36 ((pre ++ mkL lv i).map Tab.row)) (lv : Int) (i : Int) (H ++ [nO ns, growO ((pre ++ mkL lv i).map Tab.row)]) Q
  | k, i, hi => by
    have hx : (ns.map irow)[lv]? = some (irow cnt) := by simp [hc]
    have hsl : ∀ {L : Heap}, Sl B (H ++ nO ns :: L) 1 (X10 H) (ns.map irow) := fun {L} => ns_sl hl
    refine L8_3_in (ACall.cle B table) (op_idx hsl (by simp [hl]; omega) ?_)
    rw [(hsl.el hx).peek0 (v := .int .i64 (cnt : Int)) rfl, ob_some, pInt_int]
    refine bs_dec (fun h1 => ?_) fun h1 => ?_
    · match k, hi with
      | 0, hi => omega
      | k + 1, hi =>
      refine J8_2_in ?_
      rw [layC hlv (by omega), ob_some]
      refine slK_in (op_strC (J8_0_in ?_))
      rw [show layParts _ [(0, 1, .int .i64 (lv : Int)), (1, 1, .int .i64 1), (34, 1, .str (keyC lv i)), (35, 1, .str (keyC lv i))] = some (mkC lv i).row from by kernel_rfl, ob_some, lay_row (n := 36) (by rfl) (by rfl), ob_some]
      have hok := ok_app hpre (mkL_ok lv i)
      have hok' := ok_app hpre (mkL_ok lv (i + 1))
      have ht : (mkC lv i).Ok := tab_ok _ _ _ _
      refine slK_in (op_appendW (k := H.length + 1) (rows1 := (pre ++ mkL lv i).map Tab.row) (by rw [List.append_assoc, List.append_assoc, get_app]; rfl) (tabs_len hok) (sl_row1 ht.len) (by simp) (by simp [maxBytes, mkL_len]; omega) ?_)
      have e : (pre ++ mkL lv i).map Tab.row ++ [(mkC lv i).row] = (pre ++ mkL lv (i + 1)).map Tab.row := by rw [mkL_succ]; simp
      rw [e]
      generalize hr : (pre ++ mkL lv (i + 1)).map Tab.row = rows at *
      have hf : flatO (growO rows) := by rw [← hr]; exact tabs_flat hok'
      have e2 : (H ++ [nO ns, growO ((pre ++ mkL lv i).map Tab.row)] ++ [AObj.arr [.int .u8 ((97 + lv : Nat) : Int), .int .u8 (i : Int)]] ++ [AObj.arr (mkC lv i).row]).set (H.length + 1) .gone ++ [growO rows]
        = H ++ [nO ns, .gone, .arr [.int .u8 ((97 + lv : Nat) : Int), .int .u8 (i : Int)], .arr (mkC lv i).row, growO rows] := by
        rw [List.append_assoc, List.append_assoc, set_app]; simp
      have e3 : (H ++ [nO ns, growO ((pre ++ mkL lv i).map Tab.row)] ++ [AObj.arr [.int .u8 ((97 + lv : Nat) : Int), .int .u8 (i : Int)]] ++ [AObj.arr (mkC lv i).row]).length = H.length + 4 := by simp
      rw [e2, e3]
      refine J8_1_in ?_
      rw [w64 (n := (i : Int) + 1) (by omega)]
      refine L8_3_tidy (y9 := .bool true) (y10 := X10 H) (y11 := growV (H.length + 1) 36 rows) (sel2 hn hH (a := 0) (b := 4) rfl (ns_flat hl) rfl hf (by decide)) rfl (x10_low hn (by simp; omega) rfl) (growV_rv ?_ (by simp)) ?_
      · rw [← hn, pick_n1]; rfl
      · rw [← hr]; exact f8_inner hn hH hl hlv hpre hb hc h50 (by rw [hr] at *; exact h) k (i + 1) (by omega)
    · have : i = cnt := by omega
      subst this
      exact h
end

end Go.Am
