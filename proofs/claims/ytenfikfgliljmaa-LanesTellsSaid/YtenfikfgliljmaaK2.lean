import Derived.Test.YtenfikfgliljmaaK1
namespace Go.Proofs.Ytenfikfgliljmaa
open Go.RowKit
namespace LA
theorem okN : ∀ x, x ∈ runsN → x.ok := by
  intro x hx
  simp only [runsN, List.mem_cons, List.not_mem_nil, or_false] at hx
  rcases hx with rfl | rfl <;> exact ⟨by decide, by decide, by decide, by decide⟩

/-- True, and nothing that stood there is turned. -/
def TruePost (w : World) (e : Ending) (w' : World) : Prop := e = .returned (.bool true) ∧ Below w.heap.size w w'

set_option maxHeartbeats 800000 in
set_option maxRecDepth 100000 in
theorem names_any (w : World) : Calls Try.prog 3 #[] w (TruePost w) := by
  have HF1 : Hid (∀ W : World, Calls Try.prog 12 #[.int .u64 4, .agg #[.int .i64 0, .int .u64 0, .bool true, .slice (some ⟨W.heap.size, 0, none⟩) 2 2]]
      (W.alloc (.cells #[.int .i64 0, .string sA, .int .u64 1, .int .u64 2, .int .i64 0, .string sB, .int .u64 2, .int .u64 4] 28)) (FlatPost 4 runsN true (W.alloc (.cells #[.int .i64 0, .string sA, .int .u64 1, .int .u64 2, .int .i64 0, .string sB, .int .u64 2, .int .u64 4] 28)))) :=
    hide (fun W => flatten_any 4 0 0 true (some ⟨W.heap.size, 0, none⟩) 2 runsN _ (by decide) (by decide) (by decide) (runs2 W ⟨0, sA, 1, 2⟩ ⟨0, sB, 2, 4⟩) okN)
  have HK := hide known_any
  go_enter Try.func3, Try.ntmps3
  go_wp2_with fail
  refine (HF1.out w).mono ?_
  rintro e w1 hp
  obtain ⟨v, rfl, hv, hb1⟩ := flat_at flatN hp
  obtain ⟨g, cap, rfl, hg, hs⟩ := sval_some hv (by decide)
  have HB1 := hide (((Below.refl _ w).alloc (Nat.le_refl _) _).trans (hb1.mono (by simp only [World.size_alloc]; omega)))
  have HS1 := hide hs
  rw [show rowN.length = 4 from rfl]
  clear hp hv hb1 hg hs
  obtain ⟨_, _, hA, a0, -, -⟩ := HS1.out 0 (by decide)
  cases hA
  obtain ⟨_, _, hA, b0, -, -⟩ := HS1.out 1 (by decide)
  cases hA
  obtain ⟨_, _, hA, c0, c1, c2⟩ := HS1.out 2 (by decide)
  cases hA
  obtain ⟨_, _, hA, d0, -, -⟩ := HS1.out 3 (by decide)
  cases hA
  simp only [rowN, List.getElem_cons_succ, List.getElem_cons_zero] at a0 b0 c0 c1 c2 d0
  go_wp2_with fail
  refine (HK.out w1).mono ?_
  rintro e w2 ⟨rfl, hb⟩
  have HB2 := hide (HB1.out.trans (hb.mono HB1.out.size))
  clear hb a0 b0 c0 c1 c2 d0
  go_wp2_with fail
  go_ret
  exact ⟨rfl, HB2.out⟩
end LA
end Go.Proofs.Ytenfikfgliljmaa
