/- known and LanesNames return true. -/
import Derived.Test.YtenfikfgliljmaaD2
import Derived.Test.YtenfikfgliljmaaD3
import Derived.Test.YtenfikfgliljmaaD4
/- The closed numbers of bulkheadlaw9's names; plain. -/
namespace Go.Proofs.Ytenfikfgliljmaa.LA
abbrev sA : ByteArray := ⟨#[97]⟩
abbrev sB : ByteArray := ⟨#[98]⟩
abbrev sE : ByteArray := ⟨#[]⟩
theorem tA : sA.toList = [97] := by kernel_rfl
theorem tB : sB.toList = [98] := by kernel_rfl
theorem tE : sE.toList = [] := by kernel_rfl
def runsK : List Need := [⟨0, sA, 3, 0⟩, ⟨0, sE, 2, 0⟩]
def rowK : List Slot := [⟨sA, 0, 3⟩, ⟨sE, 3, 10⟩]
theorem flatK : flatL 10 runsK false = (rowK, 0, 0) := by kernel_rfl
theorem flatK0 : flatL 0 [] false = ([], -1, 92) := by kernel_rfl
theorem schedK : schedL rowK 11 = (sA, 2) := by kernel_rfl
theorem demK : demL 10 [⟨0, sA, 3, 0⟩] false = (3, true) := by kernel_rfl
theorem atK : atL [⟨2, 3⟩] 5 1 = (2, 2) := by kernel_rfl
theorem budK : budL sA rowK = 3 := by kernel_rfl
theorem budK2 : budL sE rowK = 7 := by kernel_rfl
theorem lenK : rowLen rowK = 10 := by kernel_rfl
theorem partK : partBits 7 10 = some 4604480259023595110 := by kernel_rfl
def runsN : List Need := [⟨0, sA, 1, 2⟩, ⟨0, sB, 2, 4⟩]
def rowN : List Slot := [⟨sA, 0, 1⟩, ⟨sB, 1, 2⟩, ⟨sA, 2, 3⟩, ⟨sB, 3, 4⟩]
theorem flatN : flatL 4 runsN true = (rowN, 0, 0) := by kernel_rfl
end Go.Proofs.Ytenfikfgliljmaa.LA
namespace Go.Proofs.Ytenfikfgliljmaa
open Go.RowKit
namespace LA
theorem flat_at {major : Int} {xs : List Need} {needs : Bool} {w w' : World} {e : Ending} {ys : List Slot} {i r : Int} (h : flatL major xs needs = (ys, i, r)) (hp : FlatPost major xs needs w e w') :
    ∃ v, e = .returned (.tuple #[v, .int .i64 i, .int .i64 r]) ∧ SVal w' w.heap.size v ys ∧ Below w.heap.size w w' := by
  obtain ⟨v, he, hs, hb⟩ := hp
  rw [h] at he hs
  exact ⟨v, he, hs, hb⟩
theorem sval_some {w : World} {b : Nat} {v : Value} {ys : List Slot} (h : SVal w b v ys) (hn : 0 < ys.length) : ∃ g cap, v = .slice (some ⟨g, 0, none⟩) ys.length cap ∧ b ≤ g ∧ SlotsAt w (some ⟨g, 0, none⟩) ys := by
  rcases h with ⟨_, rfl⟩ | ⟨g, cap, cur, hv, hg, hs, _⟩
  · simp at hn
  · exact ⟨g, cap, hv, hg, hs.at⟩
theorem sval_none {w : World} {b : Nat} {v : Value} (h : SVal w b v []) : v = .slice none 0 0 := by
  rcases h with ⟨hv, _⟩ | ⟨g, cap, cur, hv, hg, hs, h0⟩
  · exact hv
  · simp at h0

theorem runs1 (w : World) (x : Need) : RunsAt (w.alloc (.cells #[.int .i64 x.pos, .string x.subj, .int .u64 x.budget, .int .u64 x.period] 28)) (some ⟨w.heap.size, 0, none⟩) [x] := by
  have r := Row.alloc_new w #[.int .i64 x.pos, .string x.subj, .int .u64 x.budget, .int .u64 x.period] 28
  intro i hi
  simp only [List.length_singleton] at hi
  obtain rfl : i = 0 := by omega
  exact ⟨_, _, rfl, r.cell rfl, r.cell rfl, r.cell rfl, r.cell rfl⟩
theorem runs2 (w : World) (x y : Need) : RunsAt (w.alloc (.cells #[.int .i64 x.pos, .string x.subj, .int .u64 x.budget, .int .u64 x.period, .int .i64 y.pos, .string y.subj, .int .u64 y.budget, .int .u64 y.period] 28)) (some ⟨w.heap.size, 0, none⟩) [x, y] := by
  have r := Row.alloc_new w #[.int .i64 x.pos, .string x.subj, .int .u64 x.budget, .int .u64 x.period, .int .i64 y.pos, .string y.subj, .int .u64 y.budget, .int .u64 y.period] 28
  intro i hi
  simp only [List.length_cons, List.length_nil] at hi
  obtain rfl | rfl : i = 0 ∨ i = 1 := by omega
  · exact ⟨_, _, rfl, r.cell rfl, r.cell rfl, r.cell rfl, r.cell rfl⟩
  · exact ⟨_, _, rfl, r.cell rfl, r.cell rfl, r.cell rfl, r.cell rfl⟩
theorem stints1 (w : World) (x : Stint) : StintsAt (w.alloc (.cells #[.int .i64 x.subj, .int .i64 x.ticks] 47)) (some ⟨w.heap.size, 0, none⟩) [x] := by
  have r := Row.alloc_new w #[.int .i64 x.subj, .int .i64 x.ticks] 47
  intro i hi
  simp only [List.length_singleton] at hi
  obtain rfl : i = 0 := by omega
  exact ⟨_, _, rfl, r.cell rfl, r.cell rfl⟩
theorem runs0 (w : World) : RunsAt w none [] := fun i h => absurd h (Nat.not_lt_zero i)
theorem okK : ∀ x, x ∈ runsK → x.ok := by
  intro x hx
  simp only [runsK, List.mem_cons, List.not_mem_nil, or_false] at hx
  rcases hx with rfl | rfl <;> exact ⟨by decide, by decide, by decide, by decide⟩
theorem okK1 : ∀ x, x ∈ [(⟨0, sA, 3, 0⟩ : Need)] → x.ok := by
  intro x hx
  simp only [List.mem_cons, List.not_mem_nil, or_false] at hx
  subst hx; exact ⟨by decide, by decide, by decide, by decide⟩
theorem okRow : SlotsOk rowK := by
  intro x hx
  simp only [rowK, List.mem_cons, List.not_mem_nil, or_false] at hx
  rcases hx with rfl | rfl <;> exact ⟨by decide, by decide, by decide, by decide⟩
theorem okSt : StintsOk [⟨2, 3⟩] := by
  intro x hx
  simp only [List.mem_cons, List.not_mem_nil, or_false] at hx
  subst hx; exact ⟨by decide, by decide, by decide, by decide⟩

set_option maxHeartbeats 800000 in
set_option maxRecDepth 100000 in
theorem known_any (w : World) : Calls Try.prog 13 #[] w fun e w' => e = .returned (.bool true) ∧ Below w.heap.size w w' := by
  have HF1 : Hid (∀ W : World, Calls Try.prog 12 #[.int .u64 10, .agg #[.int .i64 0, .int .u64 0, .bool false, .slice (some ⟨W.heap.size, 0, none⟩) 2 2]]
      (W.alloc (.cells #[.int .i64 0, .string sA, .int .u64 3, .int .u64 0, .int .i64 0, .string sE, .int .u64 2, .int .u64 0] 28)) (FlatPost 10 runsK false (W.alloc (.cells #[.int .i64 0, .string sA, .int .u64 3, .int .u64 0, .int .i64 0, .string sE, .int .u64 2, .int .u64 0] 28)))) :=
    hide (fun W => flatten_any 10 0 0 false (some ⟨W.heap.size, 0, none⟩) 2 runsK _ (by decide) (by decide) (by decide) (runs2 W ⟨0, sA, 3, 0⟩ ⟨0, sE, 2, 0⟩) okK)
  have HF2 : Hid (∀ W : World, Calls Try.prog 12 #[.int .u64 0, .agg #[.int .i64 0, .int .u64 0, .bool false, .slice none 0 0]] W (FlatPost 0 [] false W)) :=
    hide (fun W => flatten_any 0 0 0 false none 0 [] W (by decide) (by decide) (by decide) (runs0 W) (fun x hx => by cases hx))
  have HS : Hid (∀ (W : World) (g cap : Nat), SlotsAt W (some ⟨g, 0, none⟩) rowK → Calls Try.prog 17 #[.slice (some ⟨g, 0, none⟩) 2 cap, .int .i64 11] W fun e w' => e = .returned (.tuple #[.string sA, .int .i64 2]) ∧ Below W.heap.size W w') :=
    hide (fun W g cap h => (sched_any (some ⟨g, 0, none⟩) cap rowK 11 W (by decide) h okRow).mono (fun e w' hp => by rw [schedK] at hp; exact hp))
  have HD : Hid (∀ W : World, Calls Try.prog 40 #[.int .u64 10, .agg #[.int .i64 0, .int .u64 0, .bool false, .slice (some ⟨W.heap.size, 0, none⟩) 1 1]]
      (W.alloc (.cells #[.int .i64 0, .string sA, .int .u64 3, .int .u64 0] 28)) fun e w' => e = .returned (.tuple #[.int .u64 3, .bool true]) ∧ Below (W.heap.size + 1) (W.alloc (.cells #[.int .i64 0, .string sA, .int .u64 3, .int .u64 0] 28)) w') :=
    hide (fun W => (demand_any 10 0 0 false (some ⟨W.heap.size, 0, none⟩) 1 [⟨0, sA, 3, 0⟩] _ (by decide) (by decide) (by decide) (runs1 W ⟨0, sA, 3, 0⟩) okK1).mono (fun e w' hp => by unfold DemPost at hp; rw [demK, World.size_alloc] at hp; exact hp))
  have HA : Hid (∀ W : World, Calls Try.prog 25 #[.slice (some ⟨W.heap.size, 0, none⟩) 1 1, .int .i64 5, .int .i64 1]
      (W.alloc (.cells #[.int .i64 2, .int .i64 3] 47)) fun e w' => e = .returned (.tuple #[.int .i64 2, .int .i64 2]) ∧ Below (W.heap.size + 1) (W.alloc (.cells #[.int .i64 2, .int .i64 3] 47)) w') :=
    hide (fun W => (at_any (some ⟨W.heap.size, 0, none⟩) 1 [⟨2, 3⟩] 5 1 _ (by decide) (by decide) (by decide) (by decide) (by decide) (stints1 W ⟨2, 3⟩) okSt).mono (fun e w' hp => by unfold AtPost at hp; rw [atK, World.size_alloc] at hp; exact hp))
  have HB : Hid (∀ (W : World) (g cap : Nat), SlotsAt W (some ⟨g, 0, none⟩) rowK → Calls Try.prog 19 #[.slice (some ⟨g, 0, none⟩) 2 cap, .string sA] W fun e w' => e = .returned (.int .i64 3) ∧ Below W.heap.size W w') :=
    hide (fun W g cap h => (budget_any (some ⟨g, 0, none⟩) cap rowK sA W (by decide) h okRow).mono (fun e w' hp => by rw [budK] at hp; exact hp))
  have HSh : Hid (∀ (W : World) (g cap : Nat), SlotsAt W (some ⟨g, 0, none⟩) rowK → Calls Try.prog 21 #[.slice (some ⟨g, 0, none⟩) 2 cap, .string sE] W fun e w' => e = .returned (.float .f64 4604480259023595110) ∧ Below W.heap.size W w') :=
    hide (fun W g cap h => (share_any (some ⟨g, 0, none⟩) cap rowK sE W (by decide) h okRow 4604480259023595110 (fun h => absurd h (by rw [lenK]; decide)) (fun _ => by rw [lenK, budK2]; exact partK)).mono (fun e w' hp => hp))
  go_enter Try.func13, Try.ntmps13
  go_wp2_with fail
  refine (HF1.out w).mono ?_
  rintro e w1 hp
  obtain ⟨v, rfl, hv, hb1⟩ := flat_at flatK hp
  obtain ⟨g, cap, rfl, hg, hs⟩ := sval_some hv (by decide)
  have HB1 := hide (((Below.refl _ w).alloc (Nat.le_refl _) _).trans (hb1.mono (by simp only [World.size_alloc]; omega)))
  have HS1 := hide hs
  rw [show rowK.length = 2 from rfl]
  clear hp hv hb1 hg hs
  go_wp2_with fail
  refine (HF2.out w1).mono ?_
  rintro e w2 hp
  obtain ⟨v, rfl, hv, hb⟩ := flat_at flatK0 hp
  obtain rfl := sval_none hv
  have HB2 := hide (HB1.out.trans (hb.mono HB1.out.size))
  have HS2 := hide (HS1.out.below hb)
  clear hp hv hb
  go_wp2_with fail
  refine (HS.out w2 g cap HS2.out).mono ?_
  rintro e w3 ⟨rfl, hb⟩
  have HB3 := hide (HB2.out.trans (hb.mono HB2.out.size))
  have HS3 := hide (HS2.out.below hb)
  clear hb
  go_wp2_with fail
  refine (HD.out w3).mono ?_
  rintro e w4 ⟨rfl, hb⟩
  have hb' := ((Below.refl _ w3).alloc (Nat.le_refl _) _).trans (hb.mono (Nat.le_succ _))
  have HB4 := hide (HB3.out.trans (hb'.mono HB3.out.size))
  have HS4 := hide (HS3.out.below hb')
  clear hb hb'
  go_wp2_with fail
  refine (HA.out w4).mono ?_
  rintro e w5 ⟨rfl, hb⟩
  have hb' := ((Below.refl _ w4).alloc (Nat.le_refl _) _).trans (hb.mono (Nat.le_succ _))
  have HB5 := hide (HB4.out.trans (hb'.mono HB4.out.size))
  have HS5 := hide (HS4.out.below hb')
  clear hb hb'
  obtain ⟨b', o', hA, n0, n1, n2⟩ := HS5.out 1 (by decide)
  cases hA
  simp only [rowK, List.getElem_cons_succ, List.getElem_cons_zero] at n0 n1 n2
  go_wp2_with fail
  clear n0 n1 n2
  refine (HB.out w5 g cap HS5.out).mono ?_
  rintro e w6 ⟨rfl, hb⟩
  have HB6 := hide (HB5.out.trans (hb.mono HB5.out.size))
  have HS6 := hide (HS5.out.below hb)
  clear hb
  go_wp2_with fail
  refine (HSh.out w6 g cap HS6.out).mono ?_
  rintro e w7 ⟨rfl, hb⟩
  have HB7 := hide (HB6.out.trans (hb.mono HB6.out.size))
  clear hb
  go_wp2_with fail
  go_ret
  exact ⟨rfl, HB7.out⟩
end LA
end Go.Proofs.Ytenfikfgliljmaa
namespace Go.Proofs.Ytenfikfgliljmaa
open Go.RowKit
namespace LA
theorem okN : ∀ x, x ∈ runsN → x.ok := by
  intro x hx
  simp only [runsN, List.mem_cons, List.not_mem_nil, or_false] at hx
  rcases hx with rfl | rfl <;> exact ⟨by decide, by decide, by decide, by decide⟩

/-- True, and nothing that stood there is turned. -/
def TruePost (w : World) (e : Ending) (w' : World) : Prop := e = .returned (.bool true) ∧ Below w.heap.size w w'

set_option maxHeartbeats 800000 in
set_option maxRecDepth 100000 in
theorem names_any (w : World) : Calls Try.prog 3 #[] w (TruePost w) := by
  have HF1 : Hid (∀ W : World, Calls Try.prog 12 #[.int .u64 4, .agg #[.int .i64 0, .int .u64 0, .bool true, .slice (some ⟨W.heap.size, 0, none⟩) 2 2]]
      (W.alloc (.cells #[.int .i64 0, .string sA, .int .u64 1, .int .u64 2, .int .i64 0, .string sB, .int .u64 2, .int .u64 4] 28)) (FlatPost 4 runsN true (W.alloc (.cells #[.int .i64 0, .string sA, .int .u64 1, .int .u64 2, .int .i64 0, .string sB, .int .u64 2, .int .u64 4] 28)))) :=
    hide (fun W => flatten_any 4 0 0 true (some ⟨W.heap.size, 0, none⟩) 2 runsN _ (by decide) (by decide) (by decide) (runs2 W ⟨0, sA, 1, 2⟩ ⟨0, sB, 2, 4⟩) okN)
  have HK := hide known_any
  go_enter Try.func3, Try.ntmps3
  go_wp2_with fail
  refine (HF1.out w).mono ?_
  rintro e w1 hp
  obtain ⟨v, rfl, hv, hb1⟩ := flat_at flatN hp
  obtain ⟨g, cap, rfl, hg, hs⟩ := sval_some hv (by decide)
  have HB1 := hide (((Below.refl _ w).alloc (Nat.le_refl _) _).trans (hb1.mono (by simp only [World.size_alloc]; omega)))
  have HS1 := hide hs
  rw [show rowN.length = 4 from rfl]
  clear hp hv hb1 hg hs
  obtain ⟨_, _, hA, a0, -, -⟩ := HS1.out 0 (by decide)
  cases hA
  obtain ⟨_, _, hA, b0, -, -⟩ := HS1.out 1 (by decide)
  cases hA
  obtain ⟨_, _, hA, c0, c1, c2⟩ := HS1.out 2 (by decide)
  cases hA
  obtain ⟨_, _, hA, d0, -, -⟩ := HS1.out 3 (by decide)
  cases hA
  simp only [rowN, List.getElem_cons_succ, List.getElem_cons_zero] at a0 b0 c0 c1 c2 d0
  go_wp2_with fail
  refine (HK.out w1).mono ?_
  rintro e w2 ⟨rfl, hb⟩
  have HB2 := hide (HB1.out.trans (hb.mono HB1.out.size))
  clear hb a0 b0 c0 c1 c2 d0
  go_wp2_with fail
  go_ret
  exact ⟨rfl, HB2.out⟩
end LA
end Go.Proofs.Ytenfikfgliljmaa
