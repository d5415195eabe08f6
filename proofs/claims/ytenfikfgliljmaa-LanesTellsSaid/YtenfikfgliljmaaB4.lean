import Derived.Test.YtenfikfgliljmaaA7
import Derived.Test.YtenfikfgliljmaaR
namespace Go.Proofs.Ytenfikfgliljmaa
open Go.RowKit
namespace LA
set_option maxHeartbeats 1600000 in
set_option maxRecDepth 100000 in
theorem right_any (major : Int) (x : Need) (needs : Bool) (w : World) (hm0 : 0 ≤ major) (hm1 : major ≤ 65536) (hx : x.ok) :
    Calls Try.prog 35 #[.int .u64 major, .agg #[.int .i64 x.pos, .string x.subj, .int .u64 x.budget, .int .u64 x.period], .bool needs] w fun e w' =>
      e = .returned (.int .i64 (wrongC major x needs)) ∧ Below w.heap.size w w' := by
  obtain ⟨hb0, hb1, hp0, hp1⟩ := hx
  generalize hr : wrongC major x needs = r
  unfold wrongC at hr
  obtain ⟨pos, subj, budget, period⟩ := x
  simp only at hb0 hb1 hp0 hp1 hr ⊢
  have close : ∀ X, Below w.heap.size w (w.alloc X) := fun X => (Below.refl _ w).alloc (Nat.le_refl _) X
  have HC := hide close
  clear close
  by_cases h1 : budget = 0
  · subst h1
    simp only [true_or, if_true] at hr
    have Hr := hide hr; clear hr
    go_enter Try.func35, Try.ntmps35
    go_wp2
    go_ret
    exact ⟨by rw [← Hr.out]; rfl, HC.out _⟩
  · by_cases h2 : major < budget
    · rw [if_pos (.inr h2)] at hr
      have Hr := hide hr; clear hr
      have k1 : (budget == 0) = false := beq_eq_false_iff_ne.2 h1
      go_enter Try.func35, Try.ntmps35
      go_wp2
      go_ret
      exact ⟨by rw [← Hr.out]; rfl, HC.out _⟩
    · rw [if_neg (by omega)] at hr
      have k1 : (budget == 0) = false := beq_eq_false_iff_ne.2 h1
      have k2 : budget ≤ major := by omega
      cases needs with
      | false =>
        simp only [if_true] at hr
        have Hr := hide hr; clear hr
        go_enter Try.func35, Try.ntmps35
        go_wp2
        go_ret
        exact ⟨by rw [← Hr.out]; rfl, HC.out _⟩
      | true =>
        rw [if_neg (by simp)] at hr
        by_cases h3 : subj.toList = []
        · rw [if_pos h3] at hr
          have Hr := hide hr; clear hr
          go_enter Try.func35, Try.ntmps35
          go_wp2
          go_ret
          exact ⟨by rw [← Hr.out]; rfl, HC.out _⟩
        · rw [if_neg h3] at hr
          have k3 : subj.toList.isEmpty = false := by simpa using h3
          have H3 := hide h3
          clear h3
          by_cases h4 : period < budget
          · rw [if_pos (by omega)] at hr
            have Hr := hide hr; clear hr
            go_enter Try.func35, Try.ntmps35
            go_wp2
            go_ret
            exact ⟨by rw [← Hr.out]; rfl, HC.out _⟩
          · by_cases h5 : major < period
            · rw [if_pos (by omega)] at hr
              have Hr := hide hr; clear hr
              go_enter Try.func35, Try.ntmps35
              go_wp2
              go_ret
              exact ⟨by rw [← Hr.out]; rfl, HC.out _⟩
            · have k4 : 0 < period := by omega
              by_cases h6 : major % period = 0
              · rw [if_neg (by omega)] at hr
                have Hr := hide hr; clear hr
                go_enter Try.func35, Try.ntmps35
                go_wp2
                go_ret
                exact ⟨by rw [← Hr.out]; rfl, HC.out _⟩
              · rw [if_pos (by omega)] at hr
                have Hr := hide hr; clear hr
                go_enter Try.func35, Try.ntmps35
                go_wp2
                go_ret
                exact ⟨by rw [← Hr.out]; rfl, HC.out _⟩
end LA
end Go.Proofs.Ytenfikfgliljmaa
