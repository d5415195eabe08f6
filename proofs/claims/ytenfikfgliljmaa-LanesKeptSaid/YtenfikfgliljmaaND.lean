/- Slices of runs: Roomy, Same, Intact, opened. -/
import Derived.Test.YtenfikfgliljmaaAB
import Derived.Test.YtenfikfgliljmaaMA
import Derived.Test.YtenfikfgliljmaaCC
import Derived.Test.YtenfikfgliljmaaZ0
import Derived.Deep.Slices
import Derived.Deep.Fields
import Derived.Test.YtenfikfgliljmaaST
/- bulkheadbook's Roomy, Same, Intact of Needs. -/
namespace Go.Proofs.Ytenfikfgliljmaa
open Go.RowKit
namespace LA
abbrev NdF (x : Need) : List Value := [.int .i64 x.pos, .string x.subj, .int .u64 x.budget, .int .u64 x.period]
abbrev NdV (x : Need) : Value := .agg #[.int .i64 x.pos, .string x.subj, .int .u64 x.budget, .int .u64 x.period]
def NdZ : Need := ⟨0, ⟨#[]⟩, 0, 0⟩
theorem NdF_len (x : Need) : (NdF x).length = 4 := rfl

/-- An element of the room: what came in, then marks, then nothing. -/
def NdAt (xs : List Need) (m : Need) (k i : Nat) : Need := if h : i < xs.length then xs[i] else if i < xs.length + k then m else NdZ
/-- So many marks lie in the room. -/
def NdRoom (cur : Array Value) (xs : List Need) (m : Need) (k : Nat) : Prop :=
  cur.size = (xs.length + 80) * 4 ∧ ∀ i, i < xs.length + 80 → cur[i * 4]? = some (.int .i64 (NdAt xs m k i).pos) ∧ cur[i * 4 + 1]? = some (.string (NdAt xs m k i).subj) ∧ cur[i * 4 + 2]? = some (.int .u64 (NdAt xs m k i).budget) ∧ cur[i * 4 + 3]? = some (.int .u64 (NdAt xs m k i).period)

theorem NdRoom.first (xs : List Need) (m : Need) (cs : List Value) (hcs : cs = xs.flatMap NdF) : NdRoom (cs ++ (madeCells #[.int .i64 0, .string ⟨#[]⟩, .int .u64 0, .int .u64 0] ((xs.length + 80) * 4)).toList.drop cs.length).toArray xs m 0 := by
  have hl : cs.length = xs.length * 4 := by rw [hcs]; exact fmap_len _ 4 NdF_len xs
  refine ⟨by simp [size_madeCells, hl]; omega, fun i hi => ?_⟩
  by_cases h : i < xs.length
  · have e : NdAt xs m 0 i = xs[i] := by unfold NdAt; rw [dif_pos h]
    rw [e]
    have key : ∀ j, j < 4 → (cs ++ (madeCells #[.int .i64 0, .string ⟨#[]⟩, .int .u64 0, .int .u64 0] ((xs.length + 80) * 4)).toList.drop cs.length).toArray[i * 4 + j]? = (NdF xs[i])[j]? := fun j hj => by
      rw [List.getElem?_toArray, List.getElem?_append_left (by omega), hcs]
      exact fmap_get _ 4 NdF_len xs i j h hj
    exact ⟨key 0 (by omega), key 1 (by omega), key 2 (by omega), key 3 (by omega)⟩
  · have e : NdAt xs m 0 i = NdZ := by unfold NdAt; rw [dif_neg h, if_neg (by omega)]
    rw [e]
    have key : ∀ j, j < 4 → (cs ++ (madeCells #[.int .i64 0, .string ⟨#[]⟩, .int .u64 0, .int .u64 0] ((xs.length + 80) * 4)).toList.drop cs.length).toArray[i * 4 + j]? = some ((#[.int .i64 0, .string ⟨#[]⟩, .int .u64 0, .int .u64 0] : Array Value)[j]!) := fun j hj => by
      rw [List.getElem?_toArray, List.getElem?_append_right (by omega), List.getElem?_drop, show cs.length + (i * 4 + j - cs.length) = i * 4 + j by omega, Array.getElem?_toList, made_get _ _ _ (by omega)]
      rw [show (#[.int .i64 0, .string ⟨#[]⟩, .int .u64 0, .int .u64 0] : Array Value).size = 4 from rfl, show (i * 4 + j) % 4 = j by omega]
    exact ⟨key 0 (by omega), key 1 (by omega), key 2 (by omega), key 3 (by omega)⟩

theorem NdRoom.next {cur : Array Value} {xs : List Need} {m : Need} {k : Nat} (h : NdRoom cur xs m k) (hk : k < 80) : NdRoom ((((cur.setIfInBounds ((xs.length + k) * 4) (.int .i64 m.pos)).setIfInBounds ((xs.length + k) * 4 + 1) (.string m.subj)).setIfInBounds ((xs.length + k) * 4 + 2) (.int .u64 m.budget)).setIfInBounds ((xs.length + k) * 4 + 3) (.int .u64 m.period)) xs m (k + 1) := by
  refine ⟨by simp only [Array.size_setIfInBounds]; exact h.1, fun i hi => ?_⟩
  have hz := h.1
  have hc := h.2 i hi
  simp only [Array.getElem?_setIfInBounds, Array.size_setIfInBounds]
  by_cases e : i = xs.length + k
  · subst e
    have e1 : NdAt xs m (k + 1) (xs.length + k) = m := by unfold NdAt; rw [dif_neg (by omega), if_pos (by omega)]
    rw [e1]
    refine ⟨?_, ?_, ?_, ?_⟩
    · rw [if_neg (by omega)]; rw [if_neg (by omega)]; rw [if_neg (by omega)]; rw [if_pos rfl, if_pos (by omega)]
    · rw [if_neg (by omega)]; rw [if_neg (by omega)]; rw [if_pos rfl, if_pos (by omega)]
    · rw [if_neg (by omega)]; rw [if_pos rfl, if_pos (by omega)]
    · rw [if_pos rfl, if_pos (by omega)]
  · have e1 : NdAt xs m (k + 1) i = NdAt xs m k i := by
      unfold NdAt
      by_cases h1 : i < xs.length
      · rw [dif_pos h1, dif_pos h1]
      · rw [dif_neg h1, dif_neg h1]
        by_cases h2 : i < xs.length + k
        · rw [if_pos h2, if_pos (by omega)]
        · rw [if_neg h2, if_neg (by omega)]
    rw [e1]
    refine ⟨?_, ?_, ?_, ?_⟩
    · rw [if_neg (by omega)]; rw [if_neg (by omega)]; rw [if_neg (by omega)]; rw [if_neg (by omega)]; exact hc.1
    · rw [if_neg (by omega)]; rw [if_neg (by omega)]; rw [if_neg (by omega)]; rw [if_neg (by omega)]; exact hc.2.1
    · rw [if_neg (by omega)]; rw [if_neg (by omega)]; rw [if_neg (by omega)]; rw [if_neg (by omega)]; exact hc.2.2.1
    · rw [if_neg (by omega)]; rw [if_neg (by omega)]; rw [if_neg (by omega)]; rw [if_neg (by omega)]; exact hc.2.2.2

theorem NdRoom.at {w : World} {g : Nat} {cur : Array Value} {xs : List Need} {m : Need} (h : NdRoom cur xs m 80) (hr : Row w g 28 cur) : RunsAt w (some ⟨g, 0, none⟩) (xs ++ List.replicate 80 m) := by
  intro i hi
  have hi' : i < xs.length + 80 := by simpa using hi
  have hc := h.2 i hi'
  have e : NdAt xs m 80 i = (xs ++ List.replicate 80 m)[i] := by
    unfold NdAt
    by_cases h1 : i < xs.length
    · rw [dif_pos h1, List.getElem_append_left h1]
    · rw [dif_neg h1, if_pos hi', List.getElem_append_right (by omega), List.getElem_replicate]
  rw [e] at hc
  refine ⟨g, 0, rfl, ?_, ?_, ?_, ?_⟩
  · rw [Nat.zero_add]; exact hr.cell (hc.1)
  · rw [Nat.zero_add]; exact hr.cell (hc.2.1)
  · rw [Nat.zero_add]; exact hr.cell (hc.2.2.1)
  · rw [Nat.zero_add]; exact hr.cell (hc.2.2.2)

theorem Ndsrc {w : World} {A : Option Addr} {xs : List Need} (h : RunsAt w A xs) : ∀ j v, (xs.flatMap NdF)[j]? = some v → ∃ a, A = some a ∧ w.cell? (a.add j) = some v := by
  intro j v hv
  have hj : j < xs.length * 4 := by
    have := (List.getElem?_eq_some_iff.1 hv).1
    rwa [fmap_len _ 4 NdF_len] at this
  obtain ⟨i, r, hr, rfl⟩ : ∃ i r, r < 4 ∧ j = i * 4 + r := ⟨j / 4, j % 4, by omega, by omega⟩
  have hi : i < xs.length := by omega
  rw [fmap_get _ 4 NdF_len xs i r hi hr] at hv
  obtain ⟨b, off, hA, c0, c1, c2, c3⟩ := h i hi
  refine ⟨_, hA, ?_⟩
  have e : (⟨b, off, none⟩ : Addr).add (i * 4 + r) = ⟨b, off + (i * 4 + r), none⟩ := by unfold Addr.add; split <;> simp_all
  rw [e]
  obtain rfl | rfl | rfl | rfl : r = 0 ∨ r = 1 ∨ r = 2 ∨ r = 3 := by omega
  · rw [← hv]; exact c0
  · rw [← hv]; exact c1
  · rw [← hv]; exact c2
  · rw [← hv]; exact c3
theorem Ndone (xs : List Need) : ∀ v ∈ xs.flatMap NdF, v.oneCell' = true := by
  intro v hv
  obtain ⟨x, _, hx⟩ := List.mem_flatMap.1 hv
  simp only [List.mem_cons, List.not_mem_nil, or_false] at hx
  obtain rfl | rfl | rfl | rfl := hx <;> rfl

/-- What Roomy leaves: a row of its own, what came in at its beginning, eighty marks behind it. -/
def NdRoomPost (xs : List Need) (m : Need) (w : World) (e : Ending) (w' : World) : Prop :=
  ∃ g, e = .returned (.slice (some ⟨g, 0, none⟩) (xs.length + 80) (xs.length + 80)) ∧ w.heap.size ≤ g ∧ RunsAt w' (some ⟨g, 0, none⟩) (xs ++ List.replicate 80 m) ∧ Below w.heap.size w w'

theorem Ndinfo : (Try.prog.info? 28).map (fun i => (i.zero, i.size, i.bytes)) = some (some (.agg #[.int .i64 0, .string ⟨#[]⟩, .int .u64 0, .int .u64 0]), 4, 40) := by kernel_rfl

set_option maxHeartbeats 800000 in
set_option maxRecDepth 100000 in
theorem Ndroomy (A : Option Addr) (cap0 : Nat) (xs : List Need) (m : Need) (w : World) (hn : xs.length ≤ 4398046511104) (hr : RunsAt w A xs) :
    Calls Try.prog 41 #[.slice A xs.length cap0, NdV m] w (NdRoomPost xs m w) := by
  obtain ⟨i0, hi, hz0, hz1, hz2⟩ := info_parts Ndinfo
  have hmk : ∀ u : World, (Instr.makeSlice 29 (.int .i64 ((xs.length : Int) + 80)) (.int .i64 ((xs.length : Int) + 80))).run Try.prog u =
      .ok (.slice (some ⟨u.heap.size, 0, none⟩) (xs.length + 80) (xs.length + 80)) (u.alloc (.cells (madeCells #[.int .i64 0, .string ⟨#[]⟩, .int .u64 0, .int .u64 0] ((xs.length + 80) * 4)) 28)) := fun u => by
    have h := run_make (P := Try.prog) u 29 28 i0 (.agg #[.int .i64 0, .string ⟨#[]⟩, .int .u64 0, .int .u64 0]) Try.underlying29 hi hz0 .i64 .i64 ((xs.length : Int) + 80) ((xs.length : Int) + 80) (by omega) (Int.le_refl _) (by rw [hz2]; omega) (by omega)
    have e : ((xs.length : Int) + 80).toNat = xs.length + 80 := by omega
    rw [e] at h
    simpa [hz1, Value.cells] using h
  obtain ⟨cs, hcs⟩ : ∃ cs, cs = xs.flatMap NdF := ⟨_, rfl⟩
  have hlen : cs.length = xs.length * 4 := by rw [hcs]; exact fmap_len _ 4 NdF_len xs
  have ra := Row.alloc_new w #[.int .i64 m.pos, .string m.subj, .int .u64 m.budget, .int .u64 m.period] 28
  have hb0 : Below w.heap.size w (w.alloc (.cells #[.int .i64 m.pos, .string m.subj, .int .u64 m.budget, .int .u64 m.period] 28)) := (Below.refl _ w).alloc (Nat.le_refl _) _
  have rb := Row.alloc_new (w.alloc (.cells #[.int .i64 m.pos, .string m.subj, .int .u64 m.budget, .int .u64 m.period] 28)) (madeCells #[.int .i64 0, .string ⟨#[]⟩, .int .u64 0, .int .u64 0] ((xs.length + 80) * 4)) 28
  have ra' := ra.alloc (.cells (madeCells #[.int .i64 0, .string ⟨#[]⟩, .int .u64 0, .int .u64 0] ((xs.length + 80) * 4)) 28)
  have hb1 : Below w.heap.size w ((w.alloc (.cells #[.int .i64 m.pos, .string m.subj, .int .u64 m.budget, .int .u64 m.period] 28)).alloc (.cells (madeCells #[.int .i64 0, .string ⟨#[]⟩, .int .u64 0, .int .u64 0] ((xs.length + 80) * 4)) 28)) := hb0.alloc (by simp) _
  simp only [World.size_alloc] at rb
  have hcp := run_copy_wide (P := Try.prog) ((w.alloc (.cells #[.int .i64 m.pos, .string m.subj, .int .u64 m.budget, .int .u64 m.period] 28)).alloc (.cells (madeCells #[.int .i64 0, .string ⟨#[]⟩, .int .u64 0, .int .u64 0] ((xs.length + 80) * 4)) 28)) 29 3 28 (w.heap.size + 1) (xs.length + 80) (xs.length + 80) 4 xs.length A xs.length cap0 _ 28 cs
    Try.underlying29 (by rw [hi]; exact congrArg some hz1) rb (by show _ = min _ _; omega) hlen (by rw [hcs]; exact Ndsrc (hr.below hb1)) (by rw [size_madeCells, hlen]; omega) (by rw [hcs]; exact Ndone xs)
  have hR := NdRoom.first xs m cs hcs
  have rc := rb.setRow (cs ++ (madeCells #[.int .i64 0, .string ⟨#[]⟩, .int .u64 0, .int .u64 0] ((xs.length + 80) * 4)).toList.drop cs.length).toArray
  have rm := (Upd.setRow ((w.alloc (.cells #[.int .i64 m.pos, .string m.subj, .int .u64 m.budget, .int .u64 m.period] 28)).alloc (.cells (madeCells #[.int .i64 0, .string ⟨#[]⟩, .int .u64 0, .int .u64 0] ((xs.length + 80) * 4)) 28)) (w.heap.size + 1) (cs ++ (madeCells #[.int .i64 0, .string ⟨#[]⟩, .int .u64 0, .int .u64 0] ((xs.length + 80) * 4)).toList.drop cs.length).toArray).row ra' (by simp)
  have hb2 := hb1.trans ((Upd.setRow ((w.alloc (.cells #[.int .i64 m.pos, .string m.subj, .int .u64 m.budget, .int .u64 m.period] 28)).alloc (.cells (madeCells #[.int .i64 0, .string ⟨#[]⟩, .int .u64 0, .int .u64 0] ((xs.length + 80) * 4)) 28)) (w.heap.size + 1) (cs ++ (madeCells #[.int .i64 0, .string ⟨#[]⟩, .int .u64 0, .int .u64 0] ((xs.length + 80) * 4)).toList.drop cs.length).toArray).below (B := w.heap.size) (by rintro b rfl; omega) (by simp; omega))
  generalize hc0 : (cs ++ (madeCells #[.int .i64 0, .string ⟨#[]⟩, .int .u64 0, .int .u64 0] ((xs.length + 80) * 4)).toList.drop cs.length).toArray = cur0 at hcp hR rc rm hb2
  generalize hw2 : ((w.alloc (.cells #[.int .i64 m.pos, .string m.subj, .int .u64 m.budget, .int .u64 m.period] 28)).alloc (.cells (madeCells #[.int .i64 0, .string ⟨#[]⟩, .int .u64 0, .int .u64 0] ((xs.length + 80) * 4)) 28)).setRow (w.heap.size + 1) cur0 = w2 at hcp rc rm hb2
  have HR := hide hR
  have RC := hide rc
  have RM := hide rm
  have HB := hide hb2
  clear hr hz0 hz1 hz2 hi hcs hlen ra hb0 rb ra' hb1 hR rc rm hb2 hc0 hw2
  go_enter Try.func41, Try.ntmps41
  go_wp2_with fail
  clear hcp hmk
  obtain ⟨N, hN⟩ : ∃ N, N = w.heap.size := ⟨_, rfl⟩
  have HN := hide hN
  rw [← hN] at RC RM ⊢
  clear hN
  go_loopw [6] (fun v6 wr => ∃ (k : Nat) (cur : Array Value), v6 = .int .i64 ((xs.length + k : Nat) : Int) ∧ k ≤ 80 ∧ Hid (NdRoom cur xs m k) ∧ Hid (Row wr (N + 1) 28 cur) ∧ Hid (Row wr N 28 #[.int .i64 m.pos, .string m.subj, .int .u64 m.budget, .int .u64 m.period]) ∧ Hid (Below w.heap.size w wr)) (fun v _ => xs.length + 80 - (intOf v).toNat)
  case atStart => exact ⟨0, cur0, rfl, Nat.zero_le _, HR, RC, RM, HB⟩
  case round =>
    obtain ⟨k, cur, rfl, hk, HR, RC, RM, HB⟩ := hrel
    by_cases hlt : k < 80
    · have hsz := HR.out.1
      have m0 := RM.out.cell (o := 0) rfl
      have m1 := RM.out.cell (o := 1) rfl
      have m2 := RM.out.cell (o := 2) rfl
      have m3 := RM.out.cell (o := 3) rfl
      obtain ⟨u0, hu0⟩ : ∃ u, cur[(xs.length + k) * 4]? = some u := ⟨_, Array.getElem?_eq_getElem (by omega)⟩
      have d0 := RC.out.cell hu0
      have z0 := RC.out.frozen ((xs.length + k) * 4)
      obtain ⟨u1, hu1⟩ : ∃ u, cur[(xs.length + k) * 4 + 1]? = some u := ⟨_, Array.getElem?_eq_getElem (by omega)⟩
      have d1 := RC.out.cell hu1
      have z1 := RC.out.frozen ((xs.length + k) * 4 + 1)
      obtain ⟨u2, hu2⟩ : ∃ u, cur[(xs.length + k) * 4 + 2]? = some u := ⟨_, Array.getElem?_eq_getElem (by omega)⟩
      have d2 := RC.out.cell hu2
      have z2 := RC.out.frozen ((xs.length + k) * 4 + 2)
      obtain ⟨u3, hu3⟩ : ∃ u, cur[(xs.length + k) * 4 + 3]? = some u := ⟨_, Array.getElem?_eq_getElem (by omega)⟩
      have d3 := RC.out.cell hu3
      have z3 := RC.out.frozen ((xs.length + k) * 4 + 3)
      have HR2 := hide (HR.out.next hlt)
      have RC2 := hide ((((((((RC.out).setCell ((xs.length + k) * 4) (.int .i64 m.pos))).setCell ((xs.length + k) * 4 + 1) (.string m.subj))).setCell ((xs.length + k) * 4 + 2) (.int .u64 m.budget))).setCell ((xs.length + k) * 4 + 3) (.int .u64 m.period))
      have RM2 := hide ((((((((RM.out).setCell_ne (a := ⟨N + 1, (xs.length + k) * 4, none⟩) (by simp) (.int .i64 m.pos))).setCell_ne (a := ⟨N + 1, (xs.length + k) * 4 + 1, none⟩) (by simp) (.string m.subj))).setCell_ne (a := ⟨N + 1, (xs.length + k) * 4 + 2, none⟩) (by simp) (.int .u64 m.budget))).setCell_ne (a := ⟨N + 1, (xs.length + k) * 4 + 3, none⟩) (by simp) (.int .u64 m.period))
      have HB2 := hide ((((((((HB.out).setCell (p := ⟨N + 1, (xs.length + k) * 4, none⟩) (by rw [HN.out]; exact Nat.le_succ _) (.int .i64 m.pos))).setCell (p := ⟨N + 1, (xs.length + k) * 4 + 1, none⟩) (by rw [HN.out]; exact Nat.le_succ _) (.string m.subj))).setCell (p := ⟨N + 1, (xs.length + k) * 4 + 2, none⟩) (by rw [HN.out]; exact Nat.le_succ _) (.int .u64 m.budget))).setCell (p := ⟨N + 1, (xs.length + k) * 4 + 3, none⟩) (by rw [HN.out]; exact Nat.le_succ _) (.int .u64 m.period))
      clear hu0 hu1 hu2 hu3
      go_wp2_with fail
      go_roundw
      case rel => exact ⟨k + 1, _, by go_num, by omega, HR2, RC2, RM2, HB2⟩
      case measure => simp [intOf]; omega
    · obtain rfl : k = 80 := by omega
      go_wp2_with fail
      go_ret
      exact ⟨N + 1, rfl, by rw [HN.out]; exact Nat.le_succ _, HR.out.at RC.out, HB.out⟩
end LA
end Go.Proofs.Ytenfikfgliljmaa
/- bulkheadbook's Same and Intact of Needs: true where both read alike. -/
namespace Go.Proofs.Ytenfikfgliljmaa
open Go.RowKit
namespace LA
/-- True; nothing that stood there is turned. -/
def NdYesPost (w : World) (e : Ending) (w' : World) : Prop := e = .returned (.bool true) ∧ Below w.heap.size w w'

set_option maxHeartbeats 800000 in
set_option maxRecDepth 100000 in
theorem Ndsame (A B : Option Addr) (ca cb : Nat) (xs : List Need) (w : World) (hn : xs.length ≤ 4398046511104) (ha : RunsAt w A xs) (hb : RunsAt w B xs) :
    Calls Try.prog 58 #[.slice A xs.length ca, .slice B xs.length cb] w (NdYesPost w) := by
  have HA := hide ha
  have HB := hide hb
  clear ha hb
  go_enter Try.func58, Try.ntmps58
  go_wp2_with fail
  go_loopw [5] (fun v wr => ∃ k m : Nat, v = .int .i64 (k : Int) ∧ k ≤ xs.length ∧ wr = w.drewN m) (fun v _ => xs.length - (intOf v).toNat)
  case atStart => exact ⟨0, 0, rfl, Nat.zero_le _, rfl⟩
  case round =>
    obtain ⟨k, m, rfl, hk, rfl⟩ := hrel
    by_cases hlt : k < xs.length
    · obtain ⟨b, off, hA, n0, n1, n2, n3⟩ := HA.out k hlt
      subst hA
      obtain ⟨b', off', hB, o0, o1, o2, o3⟩ := HB.out k hlt
      subst hB
      generalize xs[k] = x at *
      go_wp2_with fail
      go_quiet (fail)
      go_wp2_with fail
      go_roundw
      case rel => exact ⟨k + 1, _, by go_num, by omega, rfl⟩
      case measure => simp [intOf]; omega
    · obtain rfl : k = xs.length := by omega
      go_wp2_with fail
      go_ret
      exact ⟨rfl, bdn (Below.refl _ _) _⟩

theorem Ndpre {w : World} {A : Option Addr} {xs ys : List Need} (h : RunsAt w A (xs ++ ys)) : RunsAt w A xs := fun i hi => by
  have := h i (by simp; omega)
  rwa [List.getElem_append_left hi] at this
theorem Ndmark {w : World} {A : Option Addr} {xs : List Need} {m : Need} {n : Nat} (h : RunsAt w A (xs ++ List.replicate n m)) (i : Nat) (h1 : xs.length ≤ i) (h2 : i < xs.length + n) :
    ∃ b off, A = some ⟨b, off, none⟩ ∧ w.cell? ⟨b, off + i * 4, none⟩ = some (.int .i64 m.pos) ∧ w.cell? ⟨b, off + i * 4 + 1, none⟩ = some (.string m.subj) ∧ w.cell? ⟨b, off + i * 4 + 2, none⟩ = some (.int .u64 m.budget) ∧ w.cell? ⟨b, off + i * 4 + 3, none⟩ = some (.int .u64 m.period) := by
  have := h i (by simp; omega)
  rwa [List.getElem_append_right h1, List.getElem_replicate] at this

set_option maxHeartbeats 800000 in
set_option maxRecDepth 100000 in
theorem Ndintact (g : Nat) (A : Option Addr) (cap0 : Nat) (xs : List Need) (m : Need) (w : World) (hn : xs.length ≤ 4398046511104) (hf : RunsAt w (some ⟨g, 0, none⟩) (xs ++ List.replicate 80 m)) (hr : RunsAt w A xs) :
    Calls Try.prog 43 #[.slice (some ⟨g, 0, none⟩) (xs.length + 80) (xs.length + 80), .slice A xs.length cap0, NdV m] w (NdYesPost w) := by
  have hb0 : Below w.heap.size w (w.alloc (.cells #[.int .i64 m.pos, .string m.subj, .int .u64 m.budget, .int .u64 m.period] 28)) := (Below.refl _ w).alloc (Nat.le_refl _) _
  have ra := Row.alloc_new w #[.int .i64 m.pos, .string m.subj, .int .u64 m.budget, .int .u64 m.period] 28
  have Hs := hide (Ndsame (some ⟨g, 0, none⟩) A (xs.length + 80) cap0 xs (w.alloc (.cells #[.int .i64 m.pos, .string m.subj, .int .u64 m.budget, .int .u64 m.period] 28)) hn (Ndpre (hf.below hb0)) (hr.below hb0))
  have HF := hide (hf.below hb0)
  have RA := hide ra
  have HB0 := hide hb0
  clear hf hr hb0 ra
  go_enter Try.func43, Try.ntmps43
  go_wp2_with fail
  refine Hs.out.mono ?_
  rintro e w1 ⟨rfl, hb⟩
  have HF1 := hide (HF.out.below hb)
  have RA1 : Hid (Row w1 w.heap.size 28 #[.int .i64 m.pos, .string m.subj, .int .u64 m.budget, .int .u64 m.period]) := hide ((hb.block _ (by simp)).trans RA.out)
  have HB1 := hide (HB0.out.trans (hb.mono (by simp)))
  clear hb
  have m0 := RA1.out.cell (o := 0) rfl
  have m1 := RA1.out.cell (o := 1) rfl
  have m2 := RA1.out.cell (o := 2) rfl
  have m3 := RA1.out.cell (o := 3) rfl
  go_wp2_with fail
  go_loopw [7] (fun v wr => ∃ k d : Nat, v = .int .i64 (k : Int) ∧ xs.length ≤ k ∧ k ≤ xs.length + 80 ∧ wr = w1.drewN d) (fun v _ => xs.length + 80 - (intOf v).toNat)
  case atStart => exact ⟨xs.length, 0, rfl, Nat.le_refl _, by omega, rfl⟩
  case round =>
    obtain ⟨k, d, rfl, hk0, hk, rfl⟩ := hrel
    by_cases hlt : k < xs.length + 80
    · obtain ⟨b, off, hA, n0, n1, n2, n3⟩ := Ndmark HF1.out k hk0 hlt
      cases hA
      simp only [Nat.zero_add] at n0 n1 n2 n3
      go_wp2_with fail
      go_quiet (fail)
      go_wp2_with fail
      go_roundw
      case rel => exact ⟨k + 1, _, by go_num, by omega, by omega, rfl⟩
      case measure => simp [intOf]; omega
    · obtain rfl : k = xs.length + 80 := by omega
      go_wp2_with fail
      go_ret
      exact ⟨rfl, bdn HB1.out _⟩
end LA
end Go.Proofs.Ytenfikfgliljmaa
/- An argument that is a slice of Needs, opened. -/
namespace Go.Proofs.Ytenfikfgliljmaa.LA
open Go.ChangeShapes Go.WideShapes Go.ChangeAt Go.RowKit Go.Deep
theorem Ndcells : Try.prog.cellsOf 28 = 4 := by kernel_rfl
theorem Ndc3 : Try.prog.cellsOf 3 = 1 := by kernel_rfl
theorem Ndc9 : Try.prog.cellsOf 9 = 1 := by kernel_rfl
theorem Ndc26 : Try.prog.cellsOf 26 = 1 := by kernel_rfl

/-- The numbers of a Need are of their kinds. -/
def NdOk (x : Need) : Prop := (-9223372036854775808 ≤ x.pos ∧ x.pos ≤ 9223372036854775807) ∧ (0 ≤ x.budget ∧ x.budget ≤ 18446744073709551615) ∧ (0 ≤ x.period ∧ x.period ≤ 18446744073709551615)
set_option maxRecDepth 100000 in
theorem Ndelem {H : Type} {enc : TypeId × Value → H} {W : World} {n : Nat} {a : Addr} {i : Nat} {cs : List Value} {y : DataW H × List MemPlace} (hs : a.spot = none) (hc : W.cells? 0 (a.add (i * 4)) 4 = some cs)
    (ht : DataW.trod enc Try.prog W 0 (fun _ => true) true n 28 cs = some y) : ∃ x : Need, NdOk x ∧ W.cell? ⟨a.block, a.off + i * 4, none⟩ = some (.int .i64 x.pos) ∧ W.cell? ⟨a.block, a.off + i * 4 + 1, none⟩ = some (.string x.subj) ∧ W.cell? ⟨a.block, a.off + i * 4 + 2, none⟩ = some (.int .u64 x.budget) ∧ W.cell? ⟨a.block, a.off + i * 4 + 3, none⟩ = some (.int .u64 x.period) := by
  obtain ⟨_, hl, hat⟩ := World.cells?_some hc
  obtain ⟨ys, m, _, _, _, hyl, hf⟩ := DataW.trod_struct Try.underlying28 ht
  obtain ⟨c0, c1, c2, c3, rfl⟩ : ∃ c0 c1 c2 c3, cs = [c0, c1, c2, c3] := by
    match cs, hl with
    | [c0, c1, c2, c3], _ => exact ⟨c0, c1, c2, c3, rfl⟩
  have g0 := hf 0 _ rfl
  have w0 := hat 0 (by omega)
  simp only [List.getElem?_cons_zero] at g0 w0
  have e0 : ys[0]? = some (ys[0]'(by rw [hyl]; decide)) := List.getElem?_eq_getElem _
  rw [e0] at g0
  obtain ⟨s0, q0, _, f0⟩ := DataW.trod_int Try.underlying3 g0
  obtain rfl := (List.cons.inj q0).1
  rw [add_at _ (by rw [add_at _ hs]) 0, add_at _ hs] at w0
  have g1 := hf 1 _ rfl
  have w1 := hat 1 (by omega)
  simp only [List.getElem?_cons_zero, List.getElem?_cons_succ] at g1 w1
  have e1 : ys[1]? = some (ys[1]'(by rw [hyl]; decide)) := List.getElem?_eq_getElem _
  rw [e1] at g1
  obtain ⟨s1, q1, _, _⟩ := DataW.trod_string Try.underlying9 g1
  obtain rfl := (List.cons.inj q1).1
  rw [add_at _ (by rw [add_at _ hs]) 1, add_at _ hs] at w1
  have g2 := hf 2 _ rfl
  have w2 := hat 2 (by omega)
  simp only [List.getElem?_cons_zero, List.getElem?_cons_succ] at g2 w2
  have e2 : ys[2]? = some (ys[2]'(by rw [hyl]; decide)) := List.getElem?_eq_getElem _
  rw [e2] at g2
  obtain ⟨s2, q2, _, f2⟩ := DataW.trod_int Try.underlying26 g2
  obtain rfl := (List.cons.inj q2).1
  rw [add_at _ (by rw [add_at _ hs]) 2, add_at _ hs] at w2
  have g3 := hf 3 _ rfl
  have w3 := hat 3 (by omega)
  simp only [List.getElem?_cons_zero, List.getElem?_cons_succ] at g3 w3
  have e3 : ys[3]? = some (ys[3]'(by rw [hyl]; decide)) := List.getElem?_eq_getElem _
  rw [e3] at g3
  obtain ⟨s3, q3, _, f3⟩ := DataW.trod_int Try.underlying26 g3
  obtain rfl := (List.cons.inj q3).1
  rw [add_at _ (by rw [add_at _ hs]) 3, add_at _ hs] at w3
  refine ⟨⟨s0, s1, s2, s3⟩, ?_, ?_, ?_, ?_, ?_⟩
  · exact ⟨wf_i64 f0, wf_u64 f2, wf_u64 f3⟩
  · simpa [Nat.add_assoc] using w0
  · simpa [Nat.add_assoc] using w1
  · simpa [Nat.add_assoc] using w2
  · simpa [Nat.add_assoc] using w3

set_option maxRecDepth 100000 in
theorem Ndopen {H : Type} {enc : TypeId × Value → H} {W : World} {base : Nat} {v : Value} {d : DataW H} {p : List MemPlace} (hval : Value.okWide Try.prog W .any base 29 v) (hd : DataW.Trod enc Try.prog W 0 (fun _ => true) true 29 v d p) :
    ∃ (A : Option Addr) (xs : List Need) (cap : Nat), v = .slice A xs.length cap ∧ RunsAt W A xs ∧ (∀ x, x ∈ xs → NdOk x) ∧ (xs = [] ∨ ∃ el sp, d = .slice el sp ∧ el.length = xs.length) := by
  obtain ⟨fuel, hf⟩ := hd
  rcases open_slice Try.underlying29 hf with ⟨hc, _⟩ | ⟨a, len, cap, m, n, D, Pl, hc, _, hl, _, hmm, hx, hi⟩
  · refine ⟨none, [], 0, ?_, (fun i h => absurd h (Nat.not_lt_zero i)), (fun x hx => by cases hx), .inl rfl⟩
    simp only [Value.okWide, Try.underlying29, Cell.okWide, Cell.ok] at hval
    cases v <;> simp_all [Value.cells]
  · have hv : v = .slice (some a) len cap := by
      simp only [Value.okWide, Try.underlying29, Cell.okWide, Cell.ok] at hval
      cases v <;> simp_all [Value.cells]
    subst hv
    simp only [Value.okWide, Try.underlying29, Cell.okWide, Cell.ok] at hval
    have hs : a.spot = none := hval.2.2.2.1
    have key : ∀ i, ∃ x : Need, i < len → NdOk x ∧ W.cell? ⟨a.block, a.off + i * 4, none⟩ = some (.int .i64 x.pos) ∧ W.cell? ⟨a.block, a.off + i * 4 + 1, none⟩ = some (.string x.subj) ∧ W.cell? ⟨a.block, a.off + i * 4 + 2, none⟩ = some (.int .u64 x.budget) ∧ W.cell? ⟨a.block, a.off + i * 4 + 3, none⟩ = some (.int .u64 x.period) := fun i => by
      by_cases h : i < len
      · obtain ⟨cs', h1, h2⟩ := hi i (by rw [hmm]; simp; omega)
        rw [Ndcells] at h1
        obtain ⟨x, hx⟩ := Ndelem hs h1 h2
        exact ⟨x, fun _ => hx⟩
      · exact ⟨NdZ, fun h' => absurd h' h⟩
    obtain ⟨f, hf2⟩ := Classical.axiomOfChoice key
    have hlen : ((List.range len).map f).length = len := by simp
    refine ⟨some a, (List.range len).map f, cap, by rw [hlen], ?_, ?_, .inr ⟨_, _, congrArg Prod.fst hx, by simp⟩⟩
    · intro i h
      have h' : i < len := by simpa using h
      refine ⟨a.block, a.off, by rw [← hs], ?_⟩
      simpa using (hf2 i h').2
    · intro x hx
      simp only [List.mem_map, List.mem_range] at hx
      obtain ⟨i, h, rfl⟩ := hx
      exact (hf2 i h).1
end Go.Proofs.Ytenfikfgliljmaa.LA
