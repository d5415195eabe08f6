/- Walks of right and wants. -/
import Derived.Test.YtenfikfgliljmaaAB
import Derived.Test.YtenfikfgliljmaaMB
namespace Go.Proofs.Ytenfikfgliljmaa
open Go.RowKit
namespace LA
set_option maxHeartbeats 1600000 in
set_option maxRecDepth 100000 in
theorem right_any (major : Int) (x : Need) (needs : Bool) (w : World) (hm0 : 0 ≤ major) (hm1 : major ≤ 65536) (hx : x.ok) :
    Calls Try.prog 35 #[.int .u64 major, .agg #[.int .i64 x.pos, .string x.subj, .int .u64 x.budget, .int .u64 x.period], .bool needs] w fun e w' =>
      e = .returned (.int .i64 (wrongC major x needs)) ∧ Below w.heap.size w w' := by
  obtain ⟨hb0, hb1, hp0, hp1⟩ := hx
  generalize hr : wrongC major x needs = r
  unfold wrongC at hr
  obtain ⟨pos, subj, budget, period⟩ := x
  simp only at hb0 hb1 hp0 hp1 hr ⊢
  have close : ∀ X, Below w.heap.size w (w.alloc X) := fun X => (Below.refl _ w).alloc (Nat.le_refl _) X
  have HC := hide close
  clear close
  by_cases h1 : budget = 0
  · subst h1
    simp only [true_or, if_true] at hr
    have Hr := hide hr; clear hr
    go_enter Try.func35, Try.ntmps35
    go_wp2
    go_ret
    exact ⟨by rw [← Hr.out]; rfl, HC.out _⟩
  · by_cases h2 : major < budget
    · rw [if_pos (.inr h2)] at hr
      have Hr := hide hr; clear hr
      have k1 : (budget == 0) = false := beq_eq_false_iff_ne.2 h1
      go_enter Try.func35, Try.ntmps35
      go_wp2
      go_ret
      exact ⟨by rw [← Hr.out]; rfl, HC.out _⟩
    · rw [if_neg (by omega)] at hr
      have k1 : (budget == 0) = false := beq_eq_false_iff_ne.2 h1
      have k2 : budget ≤ major := by omega
      cases needs with
      | false =>
        simp only [if_true] at hr
        have Hr := hide hr; clear hr
        go_enter Try.func35, Try.ntmps35
        go_wp2
        go_ret
        exact ⟨by rw [← Hr.out]; rfl, HC.out _⟩
      | true =>
        rw [if_neg (by simp)] at hr
        by_cases h3 : subj.toList = []
        · rw [if_pos h3] at hr
          have Hr := hide hr; clear hr
          go_enter Try.func35, Try.ntmps35
          go_wp2
          go_ret
          exact ⟨by rw [← Hr.out]; rfl, HC.out _⟩
        · rw [if_neg h3] at hr
          have k3 : subj.toList.isEmpty = false := by simpa using h3
          have H3 := hide h3
          clear h3
          by_cases h4 : period < budget
          · rw [if_pos (by omega)] at hr
            have Hr := hide hr; clear hr
            go_enter Try.func35, Try.ntmps35
            go_wp2
            go_ret
            exact ⟨by rw [← Hr.out]; rfl, HC.out _⟩
          · by_cases h5 : major < period
            · rw [if_pos (by omega)] at hr
              have Hr := hide hr; clear hr
              go_enter Try.func35, Try.ntmps35
              go_wp2
              go_ret
              exact ⟨by rw [← Hr.out]; rfl, HC.out _⟩
            · have k4 : 0 < period := by omega
              by_cases h6 : major % period = 0
              · rw [if_neg (by omega)] at hr
                have Hr := hide hr; clear hr
                go_enter Try.func35, Try.ntmps35
                go_wp2
                go_ret
                exact ⟨by rw [← Hr.out]; rfl, HC.out _⟩
              · rw [if_pos (by omega)] at hr
                have Hr := hide hr; clear hr
                go_enter Try.func35, Try.ntmps35
                go_wp2
                go_ret
                exact ⟨by rw [← Hr.out]; rfl, HC.out _⟩
end LA
end Go.Proofs.Ytenfikfgliljmaa
namespace Go.Proofs.Ytenfikfgliljmaa
open Go.RowKit
namespace LA
theorem wants_le {major : Int} {x : Need} {needs : Bool} (hm1 : major ≤ 65536) (h : RightIn major x needs) : wantsC major x needs ≤ 4294967296 := by
  unfold wantsC
  have := h.le; have := h.pos
  split
  · rename_i hn
    obtain ⟨h1, h2, h3, h4, h5⟩ := h.per hn
    have h6 : major / x.period ≤ major := Int.ediv_le_self _ (by omega)
    calc x.budget * (major / x.period) ≤ 65536 * 65536 := Int.mul_le_mul (by omega) (by omega) (Int.ediv_nonneg (by omega) (by omega)) (by omega)
      _ = 4294967296 := rfl
  · omega

set_option maxHeartbeats 1600000 in
set_option maxRecDepth 100000 in
theorem wants_any (major : Int) (x : Need) (needs : Bool) (w : World) (hm0 : 0 ≤ major) (hm1 : major ≤ 65536) (hx : x.ok) (hr : RightIn major x needs) :
    Calls Try.prog 36 #[.int .u64 major, .agg #[.int .i64 x.pos, .string x.subj, .int .u64 x.budget, .int .u64 x.period], .bool needs] w fun e w' =>
      e = .returned (.int .u64 (wantsC major x needs)) ∧ Below w.heap.size w w' := by
  have hle := wants_le hm1 hr
  obtain ⟨hb0, hb1, hp0, hp1⟩ := hx
  have hb2 := hr.le
  have hper := hr.per
  generalize hq : wantsC major x needs = r at *
  unfold wantsC at hq
  obtain ⟨pos, subj, budget, period⟩ := x
  simp only at hb0 hb1 hp0 hp1 hq hb2 hper ⊢
  have close : ∀ X n, Below w.heap.size w ((w.alloc X).drewN n) := fun X n => (Upd.alloc (S := fun _ => False) w X).trans (Upd.drewN (S := fun _ => False) _ n) (fun _ h => .inl h) |>.below (fun _ h => h.elim) (Nat.le_refl _)
  have HC := hide close
  clear close hr
  cases needs with
  | false =>
    simp only [Bool.false_eq_true, if_false] at hq
    have Hr := hide hq; clear hq hper
    go_enter Try.func36, Try.ntmps36
    go_wp2
    go_ret
    exact ⟨by rw [← Hr.out]; rfl, HC.out _ 0⟩
  | true =>
    obtain ⟨-, h2, h3, -, -⟩ := hper rfl
    simp only [if_true] at hq
    have k1 : (period == 0) = false := beq_eq_false_iff_ne.2 (by omega)
    have d0 : 0 ≤ major / period := Int.ediv_nonneg hm0 (by omega)
    have d1 : major / period ≤ major := Int.ediv_le_self _ hm0
    have Hq := hide hq
    have m0 : 0 ≤ budget * (major / period) := Int.mul_nonneg hb0 d0
    have m1 : budget * (major / period) ≤ 4294967296 := by rw [hq]; exact hle
    have w1 : IntKind.u64.wrap (budget * (major / period)) = budget * (major / period) := by
      unfold IntKind.wrap; simp [IntKind.bits, IntKind.signed]; omega
    clear hq hle
    go_enter Try.func36, Try.ntmps36
    go_wp2
    go_quiet (fail)
    go_wp2
    go_ret
    refine ⟨?_, HC.out _ _⟩
    rw [← Hq.out]
    rfl
end LA
end Go.Proofs.Ytenfikfgliljmaa
