import Derived.Test.YtenfikfgliljmaaCC
import Derived.WalkLawsBesides
namespace Go.Proofs.Ytenfikfgliljmaa
open Go.RowKit
namespace LA
/-- The bits of b parts of m. -/
def partBits (b m : Int) : Option Nat := floatBits .quo .f64 (floatOfInt .f64 b) (floatOfInt .f64 m)

def SharePost (r : Nat) (w : World) (e : Ending) (w' : World) : Prop := e = .returned (.float .f64 r) ∧ Below w.heap.size w w'

set_option maxHeartbeats 800000 in
set_option maxRecDepth 100000 in
theorem share_any (A : Option Addr) (cap0 : Nat) (ys : List Slot) (s : ByteArray) (w : World) (hn : ys.length ≤ 4398046511104) (hr : SlotsAt w A ys) (hok : SlotsOk ys) (r : Nat) (h0 : rowLen ys = 0 → r = 0) (h1 : rowLen ys ≠ 0 → partBits (budL s ys) (rowLen ys) = some r) :
    Calls Try.prog 21 #[.slice A ys.length cap0, .string s] w (SharePost r w) := by
  have Hl := hide (length_any A cap0 ys w hn hr hok)
  have Hb : Hid (∀ W, Below w.heap.size w W → Calls Try.prog 19 #[.slice A ys.length cap0, .string s] W fun e w' => e = .returned (.int .i64 (budL s ys)) ∧ Below W.heap.size W w') :=
    hide (fun W hW => budget_any A cap0 ys s W hn (hr.below hW) hok)
  have H0 := hide h0
  have H1 := hide h1
  clear h0 h1
  have hc : ∀ (n : Int) (w : World), (convert 3 40 (.int .i64 n)).run Try.prog w = .ok (.float .f64 (floatOfInt .f64 n)) w := fun n w => run_convert_int_float w 3 40 .i64 .f64 n (by kernel_rfl) (by kernel_rfl)
  go_enter Try.func21, Try.ntmps21
  go_wp2_with fail
  refine Hl.out.mono ?_
  rintro e w1 ⟨rfl, hb1⟩
  have HB1 := hide hb1
  by_cases hz : rowLen ys = 0
  · have Hr := hide (H0.out hz)
    rw [hz]
    clear hb1 hc
    go_wp2_with fail
    go_ret
    exact ⟨by rw [Hr.out]; rfl, HB1.out⟩
  · have k1 : (rowLen ys == 0) = false := beq_eq_false_iff_ne.2 hz
    have hq : ∀ w : World, (binOp .quo 40 (.float .f64 (floatOfInt .f64 (budL s ys))) (.float .f64 (floatOfInt .f64 (rowLen ys)))).run Try.prog w = .ok (.float .f64 r) w := fun w => run_float_arith w .quo 40 .f64 _ _ r (H1.out hz)
    generalize hml : rowLen ys = ml at *
    clear hb1
    go_wp2_with fail
    refine (Hb.out _ HB1.out).mono ?_
    rintro e w2 ⟨rfl, hb2⟩
    have HB2 := hide (HB1.out.trans (hb2.mono HB1.out.size))
    clear hb2
    go_wp2_with fail
    go_ret
    exact ⟨rfl, HB2.out⟩
end LA
end Go.Proofs.Ytenfikfgliljmaa
