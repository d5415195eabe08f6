/- bulkheadbook's Same and Intact of Slots: true where both read alike. -/
import Derived.Test.YtenfikfgliljmaaGSl
import Derived.Test.YtenfikfgliljmaaC3
namespace Go.Proofs.Ytenfikfgliljmaa
open Go.RowKit
namespace LA
/-- True; nothing that stood there is turned. -/
def SlYesPost (w : World) (e : Ending) (w' : World) : Prop := e = .returned (.bool true) ∧ Below w.heap.size w w'

set_option maxHeartbeats 800000 in
set_option maxRecDepth 100000 in
theorem Slsame (A B : Option Addr) (ca cb : Nat) (xs : List Slot) (w : World) (hn : xs.length ≤ 4398046511104) (ha : SlotsAt w A xs) (hb : SlotsAt w B xs) :
    Calls Try.prog 31 #[.slice A xs.length ca, .slice B xs.length cb] w (SlYesPost w) := by
  have HA := hide ha
  have HB := hide hb
  clear ha hb
  go_enter Try.func31, Try.ntmps31
  go_wp2_with fail
  go_loopw [5] (fun v wr => ∃ k m : Nat, v = .int .i64 (k : Int) ∧ k ≤ xs.length ∧ wr = w.drewN m) (fun v _ => xs.length - (intOf v).toNat)
  case atStart => exact ⟨0, 0, rfl, Nat.zero_le _, rfl⟩
  case round =>
    obtain ⟨k, m, rfl, hk, rfl⟩ := hrel
    by_cases hlt : k < xs.length
    · obtain ⟨b, off, hA, n0, n1, n2⟩ := HA.out k hlt
      subst hA
      obtain ⟨b', off', hB, o0, o1, o2⟩ := HB.out k hlt
      subst hB
      generalize xs[k] = x at *
      go_wp2_with fail
      go_quiet (fail)
      go_wp2_with fail
      go_roundw
      case rel => exact ⟨k + 1, _, by go_num, by omega, rfl⟩
      case measure => simp [intOf]; omega
    · obtain rfl : k = xs.length := by omega
      go_wp2_with fail
      go_ret
      exact ⟨rfl, bdn (Below.refl _ _) _⟩

theorem Slpre {w : World} {A : Option Addr} {xs ys : List Slot} (h : SlotsAt w A (xs ++ ys)) : SlotsAt w A xs := fun i hi => by
  have := h i (by simp; omega)
  rwa [List.getElem_append_left hi] at this
theorem Slmark {w : World} {A : Option Addr} {xs : List Slot} {m : Slot} {n : Nat} (h : SlotsAt w A (xs ++ List.replicate n m)) (i : Nat) (h1 : xs.length ≤ i) (h2 : i < xs.length + n) :
    ∃ b off, A = some ⟨b, off, none⟩ ∧ w.cell? ⟨b, off + i * 3, none⟩ = some (.string m.subj) ∧ w.cell? ⟨b, off + i * 3 + 1, none⟩ = some (.int .i64 m.lo) ∧ w.cell? ⟨b, off + i * 3 + 2, none⟩ = some (.int .i64 m.hi) := by
  have := h i (by simp; omega)
  rwa [List.getElem_append_right h1, List.getElem_replicate] at this

set_option maxHeartbeats 800000 in
set_option maxRecDepth 100000 in
theorem Slintact (g : Nat) (A : Option Addr) (cap0 : Nat) (xs : List Slot) (m : Slot) (w : World) (hn : xs.length ≤ 4398046511104) (hf : SlotsAt w (some ⟨g, 0, none⟩) (xs ++ List.replicate 80 m)) (hr : SlotsAt w A xs) :
    Calls Try.prog 23 #[.slice (some ⟨g, 0, none⟩) (xs.length + 80) (xs.length + 80), .slice A xs.length cap0, SlV m] w (SlYesPost w) := by
  have hb0 : Below w.heap.size w (w.alloc (.cells #[.string m.subj, .int .i64 m.lo, .int .i64 m.hi] 33)) := (Below.refl _ w).alloc (Nat.le_refl _) _
  have ra := Row.alloc_new w #[.string m.subj, .int .i64 m.lo, .int .i64 m.hi] 33
  have Hs := hide (Slsame (some ⟨g, 0, none⟩) A (xs.length + 80) cap0 xs (w.alloc (.cells #[.string m.subj, .int .i64 m.lo, .int .i64 m.hi] 33)) hn (Slpre (hf.below hb0)) (hr.below hb0))
  have HF := hide (hf.below hb0)
  have RA := hide ra
  have HB0 := hide hb0
  clear hf hr hb0 ra
  go_enter Try.func23, Try.ntmps23
  go_wp2_with fail
  refine Hs.out.mono ?_
  rintro e w1 ⟨rfl, hb⟩
  have HF1 := hide (HF.out.below hb)
  have RA1 : Hid (Row w1 w.heap.size 33 #[.string m.subj, .int .i64 m.lo, .int .i64 m.hi]) := hide ((hb.block _ (by simp)).trans RA.out)
  have HB1 := hide (HB0.out.trans (hb.mono (by simp)))
  clear hb
  have m0 := RA1.out.cell (o := 0) rfl
  have m1 := RA1.out.cell (o := 1) rfl
  have m2 := RA1.out.cell (o := 2) rfl
  go_wp2_with fail
  go_loopw [7] (fun v wr => ∃ k d : Nat, v = .int .i64 (k : Int) ∧ xs.length ≤ k ∧ k ≤ xs.length + 80 ∧ wr = w1.drewN d) (fun v _ => xs.length + 80 - (intOf v).toNat)
  case atStart => exact ⟨xs.length, 0, rfl, Nat.le_refl _, by omega, rfl⟩
  case round =>
    obtain ⟨k, d, rfl, hk0, hk, rfl⟩ := hrel
    by_cases hlt : k < xs.length + 80
    · obtain ⟨b, off, hA, n0, n1, n2⟩ := Slmark HF1.out k hk0 hlt
      cases hA
      simp only [Nat.zero_add] at n0 n1 n2
      go_wp2_with fail
      go_quiet (fail)
      go_wp2_with fail
      go_roundw
      case rel => exact ⟨k + 1, _, by go_num, by omega, by omega, rfl⟩
      case measure => simp [intOf]; omega
    · obtain rfl : k = xs.length + 80 := by omega
      go_wp2_with fail
      go_ret
      exact ⟨rfl, bdn HB1.out _⟩
end LA
end Go.Proofs.Ytenfikfgliljmaa
