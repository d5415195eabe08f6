/- bulkheadlaw9's mark. -/
import Derived.Test.YtenfikfgliljmaaKZ
namespace Go.Proofs.Ytenfikfgliljmaa
open Go.RowKit
namespace LA
def MarkPost (i : Nat) (w : World) (e : Ending) (w' : World) : Prop := e = .returned (.agg #[.string ⟨#[]⟩, .int .i64 (-1 - (i : Int)), .int .i64 0]) ∧ Below w.heap.size w w'
set_option maxHeartbeats 800000 in
set_option maxRecDepth 100000 in
theorem mark_any (i : Nat) (j : Int) (w : World) (hi : i ≤ 100000) : Calls Try.prog 34 #[.int .i64 i, .int .i64 j] w (MarkPost i w) := by
  have hb := hide ((Below.refl w.heap.size w).alloc (Nat.le_refl _) (.cells #[.string ⟨#[]⟩, .int .i64 (-1 - (i : Int)), .int .i64 0] 33))
  have R := Row.alloc_new w #[.string ⟨#[]⟩, .int .i64 (-1 - (i : Int)), .int .i64 0] 33
  have x0 := R.cell (o := 0) rfl
  have x1 := R.cell (o := 1) rfl
  have x2 := R.cell (o := 2) rfl
  clear R
  go_enter Try.func34, Try.ntmps34
  go_wp2_with fail
  exact bodyPost_ret (v := .agg #[.string ⟨#[]⟩, .int .i64 (-1 - (i : Int)), .int .i64 0]) (by simp [results, Try.results34, go_sem, x0, x1, x2]) rfl ⟨rfl, hb.out⟩
end LA
end Go.Proofs.Ytenfikfgliljmaa
