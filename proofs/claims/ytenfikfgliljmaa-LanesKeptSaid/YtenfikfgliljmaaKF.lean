/- great, told; LanesFlattens returns true. -/
import Derived.Test.YtenfikfgliljmaaB6
import Derived.Test.YtenfikfgliljmaaKK
import Derived.Test.YtenfikfgliljmaaND
import Derived.Test.YtenfikfgliljmaaSL
import Derived.Test.YtenfikfgliljmaaT4
import Derived.Test.YtenfikfgliljmaaFD
import Derived.Test.YtenfikfgliljmaaD3
/- bulkheadlaw9's great. -/
namespace Go.Proofs.Ytenfikfgliljmaa
open Go.RowKit
namespace LA
/-- More than is looked at. -/
def greatL (major : Int) (n : Nat) (needs : Bool) : Bool := decide (5000 < n) || (needs && decide (major ≤ 65536) && decide (60000000 < (n : Int) * major))
def GreatPost (major : Int) (n : Nat) (needs : Bool) (w : World) (e : Ending) (w' : World) : Prop := e = .returned (.bool (greatL major n needs)) ∧ Below w.heap.size w w'
theorem GreatPost.mk {major : Int} {n : Nat} {needs : Bool} {w : World} {e : Ending} {w' : World} {b : Bool} (h : greatL major n needs = b) (he : e = .returned (.bool b)) (hb : Below w.heap.size w w') : GreatPost major n needs w e w' := by subst h; exact ⟨he, hb⟩

set_option maxHeartbeats 800000 in
set_option maxRecDepth 100000 in
theorem great_any (major lp lc : Int) (needs : Bool) (A : Option Addr) (n cap0 : Nat) (w : World) (hm0 : 0 ≤ major) (hm1 : major ≤ 18446744073709551615) (hn : n ≤ 9223372036854775807) :
    Calls Try.prog 14 #[.int .u64 major, laneV lp lc needs A n cap0] w (GreatPost major n needs w) := by
  have HB := hide ((Below.refl w.heap.size w).alloc (Nat.le_refl _) (.cells #[.int .i64 lp, .int .u64 lc, .bool needs, .slice A n cap0] 31))
  by_cases h1 : 5000 < n
  · have Hg := hide (show greatL major n needs = true by unfold greatL; rw [decide_eq_true h1]; rfl)
    go_enter Try.func14, Try.ntmps14
    go_wp2_with fail
    go_ret
    exact GreatPost.mk Hg.out rfl HB.out
  · cases needs with
    | false =>
      have Hg := hide (show greatL major n false = false by unfold greatL; rw [decide_eq_false h1]; rfl)
      go_enter Try.func14, Try.ntmps14
      go_wp2_with fail
      go_ret
      exact GreatPost.mk (b := decide (5000 < (n : Int))) (Hg.out.trans (by simp; omega)) rfl HB.out
    | true =>
      by_cases h2 : major ≤ 65536
      · obtain ⟨p, hp⟩ : ∃ p, p = (n : Int) * major := ⟨_, rfl⟩
        have p0 : 0 ≤ (n : Int) * major := Int.mul_nonneg (by omega) hm0
        have p1 : (n : Int) * major ≤ 5000 * 65536 := Int.mul_le_mul (by omega) h2 hm0 (by omega)
        have hw : IntKind.i64.wrap ((n : Int) * major) = (n : Int) * major := IntWalk.i64_in _ (by omega)
        by_cases h3 : 60000000 < (n : Int) * major
        · have Hg := hide (show greatL major n true = true by unfold greatL; rw [decide_eq_false h1, decide_eq_true h2, decide_eq_true h3]; rfl)
          go_enter Try.func14, Try.ntmps14
          go_wp2_with fail
          go_ret
          exact GreatPost.mk Hg.out rfl HB.out
        · have Hg := hide (show greatL major n true = false by unfold greatL; rw [decide_eq_false h1, decide_eq_true h2, decide_eq_false h3]; rfl)
          have h4 : (n : Int) * major ≤ 60000000 := by omega
          go_enter Try.func14, Try.ntmps14
          go_wp2_with fail
          go_ret
          exact GreatPost.mk (b := decide (5000 < (n : Int))) (Hg.out.trans (by simp; omega)) rfl HB.out
      · have Hg := hide (show greatL major n true = false by unfold greatL; rw [decide_eq_false h1, decide_eq_false h2]; rfl)
        go_enter Try.func14, Try.ntmps14
        go_wp2_with fail
        go_ret
        exact GreatPost.mk (b := decide (5000 < (n : Int))) (Hg.out.trans (by simp; omega)) rfl HB.out
end LA
end Go.Proofs.Ytenfikfgliljmaa
/- bulkheadlaw9's told returns true. -/
namespace Go.Proofs.Ytenfikfgliljmaa
open Go.RowKit
namespace LA
abbrev nMark : Need := ⟨0, ⟨#[109, 97, 114, 107]⟩, 0, 0⟩
/-- The world with the lane and the mark laid. -/
abbrev toldW (w : World) (lp lc : Int) (needs : Bool) (A : Option Addr) (n cap0 : Nat) : World := (w.alloc (.cells #[.int .i64 lp, .int .u64 lc, .bool needs, .slice A n cap0] 31)).alloc (.cells #[.int .i64 0, .string ⟨#[109, 97, 114, 107]⟩, .int .u64 0, .int .u64 0] 28)
structure Told (w : World) (lp lc : Int) (needs : Bool) (A : Option Addr) (xs : List Need) (cap0 : Nat) (W : World) : Prop where
  c0 : W.cell? ⟨w.heap.size, 0, none⟩ = some (.int .i64 lp)
  c1 : W.cell? ⟨w.heap.size, 1, none⟩ = some (.int .u64 lc)
  c2 : W.cell? ⟨w.heap.size, 2, none⟩ = some (.bool needs)
  c3 : W.cell? ⟨w.heap.size, 3, none⟩ = some (.slice A xs.length cap0)
  m0 : W.cell? ⟨w.heap.size + 1, 0, none⟩ = some (.int .i64 0)
  m1 : W.cell? ⟨w.heap.size + 1, 1, none⟩ = some (.string ⟨#[109, 97, 114, 107]⟩)
  m2 : W.cell? ⟨w.heap.size + 1, 2, none⟩ = some (.int .u64 0)
  m3 : W.cell? ⟨w.heap.size + 1, 3, none⟩ = some (.int .u64 0)
  at' : RunsAt W A xs
  bel : Below w.heap.size w W
  sz : w.heap.size + 2 ≤ W.heap.size
theorem Told.mk' {w : World} {lp lc : Int} {needs : Bool} {A : Option Addr} {xs : List Need} {cap0 : Nat} {W : World} (hr : RunsAt w A xs) (hb : Below (w.heap.size + 2) (toldW w lp lc needs A xs.length cap0) W) : Told w lp lc needs A xs cap0 W := by
  have r0 : Row (toldW w lp lc needs A xs.length cap0) w.heap.size 31 #[.int .i64 lp, .int .u64 lc, .bool needs, .slice A xs.length cap0] := (Row.alloc_new w _ 31).alloc _
  have r1 : Row (toldW w lp lc needs A xs.length cap0) (w.heap.size + 1) 28 #[.int .i64 0, .string ⟨#[109, 97, 114, 107]⟩, .int .u64 0, .int .u64 0] := by
    have := Row.alloc_new (w.alloc (.cells #[.int .i64 lp, .int .u64 lc, .bool needs, .slice A xs.length cap0] 31)) #[.int .i64 0, .string ⟨#[109, 97, 114, 107]⟩, .int .u64 0, .int .u64 0] 28
    simpa using this
  have q0 : Row W w.heap.size 31 _ := (hb.block _ (by omega)).trans r0
  have q1 : Row W (w.heap.size + 1) 28 _ := (hb.block _ (by omega)).trans r1
  have hbel : Below w.heap.size w W := (((Below.refl _ w).alloc (Nat.le_refl _) _).alloc (by simp) _).trans (hb.mono (by omega))
  exact ⟨q0.cell rfl, q0.cell rfl, q0.cell rfl, q0.cell rfl, q1.cell rfl, q1.cell rfl, q1.cell rfl, q1.cell rfl, hr.below hbel, hbel, by have := hb.size; simpa using this⟩
theorem Told.on {w : World} {lp lc : Int} {needs : Bool} {A : Option Addr} {xs : List Need} {cap0 : Nat} {W W' : World} (h : Told w lp lc needs A xs cap0 W) (hb : Below W.heap.size W W') : Told w lp lc needs A xs cap0 W' := by
  have hs := h.sz
  exact ⟨(hb.cell (p := ⟨w.heap.size, 0, none⟩) (show w.heap.size < _ by omega)).trans h.c0, (hb.cell (p := ⟨w.heap.size, 1, none⟩) (show w.heap.size < _ by omega)).trans h.c1, (hb.cell (p := ⟨w.heap.size, 2, none⟩) (show w.heap.size < _ by omega)).trans h.c2, (hb.cell (p := ⟨w.heap.size, 3, none⟩) (show w.heap.size < _ by omega)).trans h.c3,
    (hb.cell (p := ⟨w.heap.size + 1, 0, none⟩) (show w.heap.size + 1 < _ by omega)).trans h.m0, (hb.cell (p := ⟨w.heap.size + 1, 1, none⟩) (show w.heap.size + 1 < _ by omega)).trans h.m1, (hb.cell (p := ⟨w.heap.size + 1, 2, none⟩) (show w.heap.size + 1 < _ by omega)).trans h.m2, (hb.cell (p := ⟨w.heap.size + 1, 3, none⟩) (show w.heap.size + 1 < _ by omega)).trans h.m3,
    h.at'.below hb, h.bel.trans (hb.mono (by omega)), by have := hb.size; omega⟩

/-- The lane y beside it, and the room behind its runs. -/
structure Told2 (w : World) (lp lc : Int) (needs : Bool) (A : Option Addr) (xs : List Need) (cap0 : Nat) (Y g : Nat) (W : World) : Prop where
  told : Told w lp lc needs A xs cap0 W
  y0 : W.cell? ⟨Y, 0, none⟩ = some (.int .i64 lp)
  y1 : W.cell? ⟨Y, 1, none⟩ = some (.int .u64 lc)
  y2 : W.cell? ⟨Y, 2, none⟩ = some (.bool needs)
  y3 : W.cell? ⟨Y, 3, none⟩ = some (.slice (some ⟨g, 0, none⟩) xs.length (xs.length + 80))
  full : RunsAt W (some ⟨g, 0, none⟩) (xs ++ List.replicate 80 nMark)
  lt : Y < W.heap.size
theorem Told2.on {w : World} {lp lc : Int} {needs : Bool} {A : Option Addr} {xs : List Need} {cap0 Y g : Nat} {W W' : World} (h : Told2 w lp lc needs A xs cap0 Y g W) (hb : Below W.heap.size W W') : Told2 w lp lc needs A xs cap0 Y g W' :=
  have hl := h.lt
  ⟨h.told.on hb, (hb.cell (p := ⟨Y, 0, none⟩) hl).trans h.y0, (hb.cell (p := ⟨Y, 1, none⟩) hl).trans h.y1, (hb.cell (p := ⟨Y, 2, none⟩) hl).trans h.y2, (hb.cell (p := ⟨Y, 3, none⟩) hl).trans h.y3, h.full.below hb, by have := hb.size; omega⟩
theorem Told2.mk' {w : World} {lp lc : Int} {needs : Bool} {A : Option Addr} {xs : List Need} {cap0 g : Nat} {W : World} (h : Told w lp lc needs A xs cap0 W) (hf : RunsAt W (some ⟨g, 0, none⟩) (xs ++ List.replicate 80 nMark)) :
    Told2 w lp lc needs A xs cap0 W.heap.size g (W.alloc (.cells #[.int .i64 lp, .int .u64 lc, .bool needs, .slice (some ⟨g, 0, none⟩) xs.length (xs.length + 80)] 31)) := by
  have hb : Below W.heap.size W (W.alloc (.cells #[.int .i64 lp, .int .u64 lc, .bool needs, .slice (some ⟨g, 0, none⟩) xs.length (xs.length + 80)] 31)) := (Below.refl _ W).alloc (Nat.le_refl _) _
  have r := Row.alloc_new W #[.int .i64 lp, .int .u64 lc, .bool needs, .slice (some ⟨g, 0, none⟩) xs.length (xs.length + 80)] 31
  exact ⟨h.on hb, r.cell rfl, r.cell rfl, r.cell rfl, r.cell rfl, hf.below hb, by simp⟩
theorem sval_at {w : World} {b : Nat} {v : Value} {ys : List Slot} (h : SVal w b v ys) : ∃ A cap, v = .slice A ys.length cap ∧ SlotsAt w A ys := by
  rcases h with ⟨rfl, rfl⟩ | ⟨g, cap, cur, hv, hg, hs, _⟩
  · exact ⟨none, 0, rfl, fun i h => absurd h (Nat.not_lt_zero i)⟩
  · exact ⟨_, cap, hv, hs.at⟩

theorem flatL_len {major : Int} {xs : List Need} {needs : Bool} : (flatL major xs needs).1.length ≤ 4096 := by
  unfold flatL
  split
  · simp
  · cases checkL major needs xs 0 0 with
    | error p => simp [flatE]
    | ok s =>
      simp only [flatE]
      split
      · simp
      · simp; omega
set_option maxHeartbeats 1600000 in
set_option maxRecDepth 100000 in
theorem told_any (major lp lc : Int) (needs : Bool) (A : Option Addr) (cap0 : Nat) (xs : List Need) (w : World) (hm0 : 0 ≤ major) (hm1 : major ≤ 18446744073709551615) (hn : xs.length ≤ 2147483648) (hr : RunsAt w A xs) (hok : ∀ x, x ∈ xs → x.ok) :
    Calls Try.prog 15 #[.int .u64 major, laneV lp lc needs A xs.length cap0] w (TruePost w) := by
  have HRo : Hid (∀ W, RunsAt W A xs → Calls Try.prog 41 #[.slice A xs.length cap0, NdV nMark] W (NdRoomPost xs nMark W)) := hide (fun W h => Ndroomy A cap0 xs nMark W (by omega) h)
  have HF1 : Hid (∀ W g, RunsAt W (some ⟨g, 0, none⟩) xs → Calls Try.prog 12 #[.int .u64 major, laneV lp lc needs (some ⟨g, 0, none⟩) xs.length (xs.length + 80)] W (FlatPost major xs needs W)) := hide (fun W g h => flatten_any major lp lc needs _ _ xs W hm0 hm1 (by omega) h hok)
  have HF2 : Hid (∀ W, RunsAt W A xs → Calls Try.prog 30 #[.int .u64 major, laneV lp lc needs A xs.length cap0] W (FlatPost major xs needs W)) := hide (fun W h => refFlatten_any major lp lc needs _ _ xs W hm0 hm1 hn h hok)
  have HD1 : Hid (∀ W g, RunsAt W (some ⟨g, 0, none⟩) xs → Calls Try.prog 40 #[.int .u64 major, laneV lp lc needs (some ⟨g, 0, none⟩) xs.length (xs.length + 80)] W (DemPost major xs needs W)) := hide (fun W g h => demand_any major lp lc needs _ _ xs W hm0 hm1 hn h hok)
  have HD2 : Hid (∀ W, RunsAt W A xs → Calls Try.prog 42 #[.int .u64 major, laneV lp lc needs A xs.length cap0] W (DemPost major xs needs W)) := hide (fun W h => refDemand_any major lp lc needs _ _ xs W hm0 hm1 hn h hok)
  have HIn : Hid (∀ W g, RunsAt W (some ⟨g, 0, none⟩) (xs ++ List.replicate 80 nMark) → RunsAt W A xs → Calls Try.prog 43 #[.slice (some ⟨g, 0, none⟩) (xs.length + 80) (xs.length + 80), .slice A xs.length cap0, NdV nMark] W (NdYesPost W)) := hide (fun W g h1 h2 => Ndintact g A cap0 xs nMark W (by omega) h1 h2)
  have hW0 : Told w lp lc needs A xs cap0 (toldW w lp lc needs A xs.length cap0) := Told.mk' hr (Below.refl _ _)
  have T0 := hide hW0
  clear hW0 hr hok
  go_enter Try.func15, Try.ntmps15
  go_wp2_with fail
  refine (HRo.out _ T0.out.at').mono ?_
  rintro e w1 ⟨g, rfl, hg, hf, hb⟩
  have T1 := hide (T0.out.on hb)
  have HF := hide hf
  obtain ⟨c0, c1, c2, c3, m0, m1, m2, m3, _, _, _⟩ := T1.out
  clear hb hf
  have HT2 := hide (T1.out.on ((Below.refl _ w1).alloc (Nat.le_refl _) (.cells #[.int .i64 lp, .int .u64 lc, .bool needs, .slice A xs.length cap0] 31)))
  have c3' := HT2.out.c3
  have y3 := (Row.alloc_new w1 #[.int .i64 lp, .int .u64 lc, .bool needs, .slice A xs.length cap0] 31).cell (o := 3) rfl
  have f3 := (Row.alloc_new w1 #[.int .i64 lp, .int .u64 lc, .bool needs, .slice A xs.length cap0] 31).frozen 3
  go_wp2_with fail
  have Z2 := hide (Told2.mk' T1.out HF.out)
  clear c0 c1 c2 c3 m0 m1 m2 m3 c3' y3 f3 T0 HT2 HF
  generalize w1.alloc (.cells #[.int .i64 lp, .int .u64 lc, .bool needs, .slice (some ⟨g, 0, none⟩) xs.length (xs.length + 80)] 31) = w2 at Z2 ⊢
  generalize w1.heap.size = Y at Z2 ⊢
  refine (HF1.out w2 g (Ndpre Z2.out.full)).mono ?_
  rintro e w3 ⟨v, rfl, hv, hb⟩
  obtain ⟨A1, k1, rfl, ha1⟩ := sval_at hv
  have Z3 := hide (Z2.out.on hb)
  have HA1 := hide ha1
  have FL := hide (show (flatL major xs needs).1.length ≤ 4096 from flatL_len)
  obtain ⟨c0, c1, c2, c3, m0, m1, m2, m3, _, _, _⟩ := Z3.out.told
  clear hb hv ha1 Z2
  go_wp2_with fail
  refine (HF2.out w3 Z3.out.told.at').mono ?_
  rintro e w4 ⟨v, rfl, hv, hb⟩
  obtain ⟨A2, k2, rfl, ha2⟩ := sval_at hv
  have Z4 := hide (Z3.out.on hb)
  have HA2 := hide ha2
  replace HA1 := hide (HA1.out.below hb)
  obtain ⟨_, y0, y1, y2, y3, _, _⟩ := Z4.out
  clear hb hv ha2 Z3 c0 c1 c2 c3 m0 m1 m2 m3
  go_wp2_with fail
  refine (HD1.out w4 g (Ndpre Z4.out.full)).mono ?_
  rintro e w5 ⟨rfl, hb⟩
  have Z5 := hide (Z4.out.on hb)
  replace HA1 := hide (HA1.out.below hb)
  replace HA2 := hide (HA2.out.below hb)
  obtain ⟨c0, c1, c2, c3, m0, m1, m2, m3, _, _, _⟩ := Z5.out.told
  clear hb Z4 y0 y1 y2 y3
  go_wp2_with fail
  refine (HD2.out w5 Z5.out.told.at').mono ?_
  rintro e w6 ⟨rfl, hb⟩
  have Z6 := hide (Z5.out.on hb)
  replace HA1 := hide (HA1.out.below hb)
  replace HA2 := hide (HA2.out.below hb)
  clear hb Z5 c0 c1 c2 c3 m0 m1 m2 m3
  go_wp2_with fail
  refine (Slsame A1 A2 k1 k2 (flatL major xs needs).1 w6 (by have := FL.out; omega) HA1.out HA2.out).mono ?_
  rintro e w7 ⟨rfl, hb⟩
  have Z7 := hide (Z6.out.on hb)
  obtain ⟨c0, c1, c2, c3, m0, m1, m2, m3, _, _, _⟩ := Z7.out.told
  clear hb Z6
  go_wp2_with fail
  refine (HIn.out w7 g Z7.out.full Z7.out.told.at').mono ?_
  rintro e w8 ⟨rfl, hb⟩
  have Z8 := hide (Z7.out.on hb)
  clear hb Z7 c0 c1 c2 c3 m0 m1 m2 m3
  go_wp2_with fail
  go_ret
  exact ⟨rfl, Z8.out.told.bel⟩
end LA
end Go.Proofs.Ytenfikfgliljmaa
/- bulkheadlaw9.LanesFlattens returns true. -/
namespace Go.Proofs.Ytenfikfgliljmaa
open Go.RowKit
namespace LA
set_option maxHeartbeats 1600000 in
set_option maxRecDepth 100000 in
theorem lanesFlattens_any (major lp lc : Int) (needs : Bool) (A : Option Addr) (cap0 : Nat) (xs : List Need) (w : World) (hm0 : 0 ≤ major) (hm1 : major ≤ 18446744073709551615) (hn : xs.length ≤ 9223372036854775807) (hr : RunsAt w A xs) (hok : ∀ x, x ∈ xs → x.ok) :
    Calls Try.prog 4 #[.int .u64 major, laneV lp lc needs A xs.length cap0] w (TruePost w) := by
  have HGr := hide (fun W => great_any major lp lc needs A xs.length cap0 W hm0 hm1 hn)
  have r0 := Row.alloc_new w #[.int .i64 lp, .int .u64 lc, .bool needs, .slice A xs.length cap0] 31
  have R0 := hide r0
  have HB0 := hide ((Below.refl w.heap.size w).alloc (Nat.le_refl _) (.cells #[.int .i64 lp, .int .u64 lc, .bool needs, .slice A xs.length cap0] 31))
  have HR1 := hide (hr.below HB0.out)
  have HO := hide hok
  have HK := hide known_any
  clear hr r0 hok
  go_enter Try.func4, Try.ntmps4
  go_wp2_with fail
  refine (HGr.out _).mono ?_
  rintro e w1 ⟨rfl, hb⟩
  have R1 : Hid (Row w1 w.heap.size 31 #[.int .i64 lp, .int .u64 lc, .bool needs, .slice A xs.length cap0]) := hide ((hb.block _ (by simp)).trans R0.out)
  have HB1 : Hid (Below w.heap.size w w1) := hide (HB0.out.trans (hb.mono (by simp)))
  have HR2 := hide (HR1.out.below hb)
  clear hb
  cases hg : greatL major xs.length needs with
  | true =>
    go_wp2_with fail
    refine (HK.out w1).mono ?_
    rintro e w2 ⟨rfl, hb⟩
    have HB2 := hide (HB1.out.trans (hb.mono HB1.out.size))
    clear hb
    go_wp2_with fail
    go_ret
    exact ⟨rfl, HB2.out⟩
  | false =>
    have hn5 : xs.length ≤ 5000 := by
      unfold greatL at hg
      simp at hg
      omega
    have HT : Hid (∀ W, RunsAt W A xs → Calls Try.prog 15 #[.int .u64 major, laneV lp lc needs A xs.length cap0] W (TruePost W)) := hide (fun W h => told_any major lp lc needs A cap0 xs W hm0 hm1 (by omega) h HO.out)
    have c0 := R1.out.cell (o := 0) rfl
    have c1 := R1.out.cell (o := 1) rfl
    have c2 := R1.out.cell (o := 2) rfl
    have c3 := R1.out.cell (o := 3) rfl
    have lw := R1.out.lt
    go_wp2_with fail
    refine (HT.out w1 HR2.out).mono ?_
    rintro e w2 ⟨rfl, hb⟩
    have HB2 := hide (HB1.out.trans (hb.mono HB1.out.size))
    have HR3 := hide (HR2.out.below hb)
    have R2 : Hid (Row w2 w.heap.size 31 #[.int .i64 lp, .int .u64 lc, .bool needs, .slice A xs.length cap0]) := hide ((hb.block _ lw).trans R1.out)
    replace c0 := R2.out.cell (o := 0) rfl
    replace c1 := R2.out.cell (o := 1) rfl
    replace c2 := R2.out.cell (o := 2) rfl
    replace c3 := R2.out.cell (o := 3) rfl
    clear hb
    go_wp2_with fail
    refine (HT.out w2 HR3.out).mono ?_
    rintro e w3 ⟨rfl, hb⟩
    have HB3 := hide (HB2.out.trans (hb.mono HB2.out.size))
    clear hb c0 c1 c2 c3
    go_wp2_with fail
    refine (HK.out w3).mono ?_
    rintro e w4 ⟨rfl, hb⟩
    have HB4 := hide (HB3.out.trans (hb.mono HB3.out.size))
    clear hb
    go_wp2_with fail
    go_ret
    exact ⟨rfl, HB4.out⟩
end LA
end Go.Proofs.Ytenfikfgliljmaa
