import Derived.Test.YtenfikfgliljmaaB4
namespace Go.Proofs.Ytenfikfgliljmaa
open Go.RowKit
namespace LA
theorem wants_le {major : Int} {x : Need} {needs : Bool} (hm1 : major ≤ 65536) (h : RightIn major x needs) : wantsC major x needs ≤ 4294967296 := by
  unfold wantsC
  have := h.le; have := h.pos
  split
  · rename_i hn
    obtain ⟨h1, h2, h3, h4, h5⟩ := h.per hn
    have h6 : major / x.period ≤ major := Int.ediv_le_self _ (by omega)
    calc x.budget * (major / x.period) ≤ 65536 * 65536 := Int.mul_le_mul (by omega) (by omega) (Int.ediv_nonneg (by omega) (by omega)) (by omega)
      _ = 4294967296 := rfl
  · omega

set_option maxHeartbeats 1600000 in
set_option maxRecDepth 100000 in
theorem wants_any (major : Int) (x : Need) (needs : Bool) (w : World) (hm0 : 0 ≤ major) (hm1 : major ≤ 65536) (hx : x.ok) (hr : RightIn major x needs) :
    Calls Try.prog 36 #[.int .u64 major, .agg #[.int .i64 x.pos, .string x.subj, .int .u64 x.budget, .int .u64 x.period], .bool needs] w fun e w' =>
      e = .returned (.int .u64 (wantsC major x needs)) ∧ Below w.heap.size w w' := by
  have hle := wants_le hm1 hr
  obtain ⟨hb0, hb1, hp0, hp1⟩ := hx
  have hb2 := hr.le
  have hper := hr.per
  generalize hq : wantsC major x needs = r at *
  unfold wantsC at hq
  obtain ⟨pos, subj, budget, period⟩ := x
  simp only at hb0 hb1 hp0 hp1 hq hb2 hper ⊢
  have close : ∀ X n, Below w.heap.size w ((w.alloc X).drewN n) := fun X n => (Upd.alloc (S := fun _ => False) w X).trans (Upd.drewN (S := fun _ => False) _ n) (fun _ h => .inl h) |>.below (fun _ h => h.elim) (Nat.le_refl _)
  have HC := hide close
  clear close hr
  cases needs with
  | false =>
    simp only [Bool.false_eq_true, if_false] at hq
    have Hr := hide hq; clear hq hper
    go_enter Try.func36, Try.ntmps36
    go_wp2
    go_ret
    exact ⟨by rw [← Hr.out]; rfl, HC.out _ 0⟩
  | true =>
    obtain ⟨-, h2, h3, -, -⟩ := hper rfl
    simp only [if_true] at hq
    have k1 : (period == 0) = false := beq_eq_false_iff_ne.2 (by omega)
    have d0 : 0 ≤ major / period := Int.ediv_nonneg hm0 (by omega)
    have d1 : major / period ≤ major := Int.ediv_le_self _ hm0
    have Hq := hide hq
    have m0 : 0 ≤ budget * (major / period) := Int.mul_nonneg hb0 d0
    have m1 : budget * (major / period) ≤ 4294967296 := by rw [hq]; exact hle
    have w1 : IntKind.u64.wrap (budget * (major / period)) = budget * (major / period) := by
      unfold IntKind.wrap; simp [IntKind.bits, IntKind.signed]; omega
    clear hq hle
    go_enter Try.func36, Try.ntmps36
    go_wp2
    go_quiet (fail)
    go_wp2
    go_ret
    refine ⟨?_, HC.out _ _⟩
    rw [← Hq.out]
    rfl
end LA
end Go.Proofs.Ytenfikfgliljmaa
