/- bulkheadbook's Within; rows of names. -/
import Derived.Test.YtenfikfgliljmaaKF
import Derived.Test.YtenfikfgliljmaaPW
namespace Go.Proofs.Ytenfikfgliljmaa
open Go.RowKit
namespace LA
def WithinPost (w : World) (e : Ending) (w' : World) : Prop := ∃ f : Nat, f ≤ 200000 ∧ e = .returned (.int .i64 f) ∧ w = w'
theorem WithinPost.mk {w w' : World} {v : Int} (h0 : 0 ≤ v) (h1 : v ≤ 200000) (hw : w = w') : WithinPost w (.returned (.int .i64 v)) w' := ⟨v.toNat, by omega, by rw [Int.toNat_of_nonneg h0], hw⟩
set_option maxHeartbeats 800000 in
set_option maxRecDepth 100000 in
theorem within_any (n : Int) (w : World) (h0 : -9223372036854775808 ≤ n) (h1 : n ≤ 9223372036854775807) : Calls Try.prog 29 #[.int .i64 n, .int .i64 0, .int .i64 200000] w (WithinPost w) := by
  by_cases hn : 0 ≤ n
  · have hb0 : 0 ≤ n % 200001 := Int.emod_nonneg _ (by omega)
    have hb1 : n % 200001 < 200001 := Int.emod_lt_of_pos _ (by omega)
    go_enter Try.func29, Try.ntmps29
    go_wp2_with fail
    go_ret
    exact WithinPost.mk (by omega) (by omega) rfl
  · obtain ⟨r, hr⟩ : ∃ r, r = n.tmod 200001 := ⟨_, rfl⟩
    have hb0 : -200001 < r := by
      rw [hr]
      have := Int.lt_tmod_of_pos n (show (0 : Int) < 200001 by omega)
      exact this
    have hb1 : r ≤ 0 := by
      have h2 := Int.neg_tmod (-n) 200001
      rw [Int.neg_neg] at h2
      have h3 := Int.tmod_nonneg 200001 (show 0 ≤ -n by omega)
      omega
    have hr' : n.tmod 200001 = r := hr.symm
    have hw : IntKind.i64.wrap r = r := IntWalk.i64_in _ (by omega)
    have hw2 : IntKind.i64.wrap (r + 200000 - 0 + 1) = r + 200000 - 0 + 1 := IntWalk.i64_in _ (by omega)
    clear hr
    by_cases hz : r < 0
    · go_enter Try.func29, Try.ntmps29
      go_wp2_with fail
      go_ret
      exact WithinPost.mk (by omega) (by omega) rfl
    · go_enter Try.func29, Try.ntmps29
      go_wp2_with fail
      go_ret
      exact WithinPost.mk (by omega) (by omega) rfl
theorem und57 : Try.prog.underlying 57 = some (.slice 9) := by kernel_rfl
theorem info9 : (Try.prog.info? 9).map (fun i => (i.zero, i.size, i.bytes)) = some (some (.string ⟨#[]⟩), 1, 16) := by kernel_rfl
/-- A row of names of its own. -/
def SOwn (w : World) (B g cap : Nat) (L : List ByteArray) : Prop := w.ownsRow B 9 1 (.slice (some ⟨g, 0, none⟩) L.length cap) L.length (L.map Value.string)
theorem SOwn.cellAt {w : World} {B g cap : Nat} {L : List ByteArray} (h : SOwn w B g cap L) (i : Nat) (hi : i < L.length) : w.cell? ⟨g, i, none⟩ = some (.string L[i]) := by
  have := World.ownsRow.cellAt h i (by omega)
  rw [this]; simp [hi]
theorem SOwn.row {w : World} {B g cap : Nat} {L : List ByteArray} (h : SOwn w B g cap L) : B ≤ g ∧ g < w.heap.size := by
  rcases h.2 with ⟨h1, _⟩ | ⟨g', cap', cur, hv, hb, hg, h2, h3, h4, h5⟩
  · cases h1
  · obtain ⟨rfl, rfl⟩ : g' = g ∧ cap' = cap := by simpa using hv.symm
    exact ⟨hb, Row.lt (show Row w g' 9 cur from hg)⟩
theorem SOwn.first (w : World) (s : ByteArray) : SOwn (w.alloc (.cells #[.string s] 9)) w.heap.size w.heap.size 1 [s] :=
  ⟨rfl, .inr ⟨w.heap.size, 1, #[.string s], rfl, Nat.le_refl _, heap_alloc_new w _, by simp, by unfold maxLen; omega, rfl, rfl⟩⟩
end LA
end Go.Proofs.Ytenfikfgliljmaa
