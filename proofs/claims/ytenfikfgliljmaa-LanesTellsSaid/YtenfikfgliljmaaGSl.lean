/- bulkheadbook's Roomy, Same, Intact of Slots. -/
import Derived.Test.YtenfikfgliljmaaA7
import Derived.Test.YtenfikfgliljmaaG0
import Derived.Test.YtenfikfgliljmaaQ
namespace Go.Proofs.Ytenfikfgliljmaa
open Go.RowKit
namespace LA
abbrev SlF (x : Slot) : List Value := [.string x.subj, .int .i64 x.lo, .int .i64 x.hi]
abbrev SlV (x : Slot) : Value := .agg #[.string x.subj, .int .i64 x.lo, .int .i64 x.hi]
def SlZ : Slot := ⟨⟨#[]⟩, 0, 0⟩
theorem SlF_len (x : Slot) : (SlF x).length = 3 := rfl

/-- An element of the room: what came in, then marks, then nothing. -/
def SlAt (xs : List Slot) (m : Slot) (k i : Nat) : Slot := if h : i < xs.length then xs[i] else if i < xs.length + k then m else SlZ
/-- So many marks lie in the room. -/
def SlRoom (cur : Array Value) (xs : List Slot) (m : Slot) (k : Nat) : Prop :=
  cur.size = (xs.length + 80) * 3 ∧ ∀ i, i < xs.length + 80 → cur[i * 3]? = some (.string (SlAt xs m k i).subj) ∧ cur[i * 3 + 1]? = some (.int .i64 (SlAt xs m k i).lo) ∧ cur[i * 3 + 2]? = some (.int .i64 (SlAt xs m k i).hi)

theorem SlRoom.first (xs : List Slot) (m : Slot) (cs : List Value) (hcs : cs = xs.flatMap SlF) : SlRoom (cs ++ (madeCells #[.string ⟨#[]⟩, .int .i64 0, .int .i64 0] ((xs.length + 80) * 3)).toList.drop cs.length).toArray xs m 0 := by
  have hl : cs.length = xs.length * 3 := by rw [hcs]; exact fmap_len _ 3 SlF_len xs
  refine ⟨by simp [size_madeCells, hl]; omega, fun i hi => ?_⟩
  by_cases h : i < xs.length
  · have e : SlAt xs m 0 i = xs[i] := by unfold SlAt; rw [dif_pos h]
    rw [e]
    have key : ∀ j, j < 3 → (cs ++ (madeCells #[.string ⟨#[]⟩, .int .i64 0, .int .i64 0] ((xs.length + 80) * 3)).toList.drop cs.length).toArray[i * 3 + j]? = (SlF xs[i])[j]? := fun j hj => by
      rw [List.getElem?_toArray, List.getElem?_append_left (by omega), hcs]
      exact fmap_get _ 3 SlF_len xs i j h hj
    exact ⟨key 0 (by omega), key 1 (by omega), key 2 (by omega)⟩
  · have e : SlAt xs m 0 i = SlZ := by unfold SlAt; rw [dif_neg h, if_neg (by omega)]
    rw [e]
    have key : ∀ j, j < 3 → (cs ++ (madeCells #[.string ⟨#[]⟩, .int .i64 0, .int .i64 0] ((xs.length + 80) * 3)).toList.drop cs.length).toArray[i * 3 + j]? = some ((#[.string ⟨#[]⟩, .int .i64 0, .int .i64 0] : Array Value)[j]!) := fun j hj => by
      rw [List.getElem?_toArray, List.getElem?_append_right (by omega), List.getElem?_drop, show cs.length + (i * 3 + j - cs.length) = i * 3 + j by omega, Array.getElem?_toList, made_get _ _ _ (by omega)]
      rw [show (#[.string ⟨#[]⟩, .int .i64 0, .int .i64 0] : Array Value).size = 3 from rfl, show (i * 3 + j) % 3 = j by omega]
    exact ⟨key 0 (by omega), key 1 (by omega), key 2 (by omega)⟩

theorem SlRoom.next {cur : Array Value} {xs : List Slot} {m : Slot} {k : Nat} (h : SlRoom cur xs m k) (hk : k < 80) : SlRoom (((cur.setIfInBounds ((xs.length + k) * 3) (.string m.subj)).setIfInBounds ((xs.length + k) * 3 + 1) (.int .i64 m.lo)).setIfInBounds ((xs.length + k) * 3 + 2) (.int .i64 m.hi)) xs m (k + 1) := by
  refine ⟨by simp only [Array.size_setIfInBounds]; exact h.1, fun i hi => ?_⟩
  have hz := h.1
  have hc := h.2 i hi
  simp only [Array.getElem?_setIfInBounds, Array.size_setIfInBounds]
  by_cases e : i = xs.length + k
  · subst e
    have e1 : SlAt xs m (k + 1) (xs.length + k) = m := by unfold SlAt; rw [dif_neg (by omega), if_pos (by omega)]
    rw [e1]
    refine ⟨?_, ?_, ?_⟩
    · rw [if_neg (by omega)]; rw [if_neg (by omega)]; rw [if_pos rfl, if_pos (by omega)]
    · rw [if_neg (by omega)]; rw [if_pos rfl, if_pos (by omega)]
    · rw [if_pos rfl, if_pos (by omega)]
  · have e1 : SlAt xs m (k + 1) i = SlAt xs m k i := by
      unfold SlAt
      by_cases h1 : i < xs.length
      · rw [dif_pos h1, dif_pos h1]
      · rw [dif_neg h1, dif_neg h1]
        by_cases h2 : i < xs.length + k
        · rw [if_pos h2, if_pos (by omega)]
        · rw [if_neg h2, if_neg (by omega)]
    rw [e1]
    refine ⟨?_, ?_, ?_⟩
    · rw [if_neg (by omega)]; rw [if_neg (by omega)]; rw [if_neg (by omega)]; exact hc.1
    · rw [if_neg (by omega)]; rw [if_neg (by omega)]; rw [if_neg (by omega)]; exact hc.2.1
    · rw [if_neg (by omega)]; rw [if_neg (by omega)]; rw [if_neg (by omega)]; exact hc.2.2

theorem SlRoom.at {w : World} {g : Nat} {cur : Array Value} {xs : List Slot} {m : Slot} (h : SlRoom cur xs m 80) (hr : Row w g 33 cur) : SlotsAt w (some ⟨g, 0, none⟩) (xs ++ List.replicate 80 m) := by
  intro i hi
  have hi' : i < xs.length + 80 := by simpa using hi
  have hc := h.2 i hi'
  have e : SlAt xs m 80 i = (xs ++ List.replicate 80 m)[i] := by
    unfold SlAt
    by_cases h1 : i < xs.length
    · rw [dif_pos h1, List.getElem_append_left h1]
    · rw [dif_neg h1, if_pos hi', List.getElem_append_right (by omega), List.getElem_replicate]
  rw [e] at hc
  refine ⟨g, 0, rfl, ?_, ?_, ?_⟩
  · rw [Nat.zero_add]; exact hr.cell (hc.1)
  · rw [Nat.zero_add]; exact hr.cell (hc.2.1)
  · rw [Nat.zero_add]; exact hr.cell (hc.2.2)

theorem Slsrc {w : World} {A : Option Addr} {xs : List Slot} (h : SlotsAt w A xs) : ∀ j v, (xs.flatMap SlF)[j]? = some v → ∃ a, A = some a ∧ w.cell? (a.add j) = some v := by
  intro j v hv
  have hj : j < xs.length * 3 := by
    have := (List.getElem?_eq_some_iff.1 hv).1
    rwa [fmap_len _ 3 SlF_len] at this
  obtain ⟨i, r, hr, rfl⟩ : ∃ i r, r < 3 ∧ j = i * 3 + r := ⟨j / 3, j % 3, by omega, by omega⟩
  have hi : i < xs.length := by omega
  rw [fmap_get _ 3 SlF_len xs i r hi hr] at hv
  obtain ⟨b, off, hA, c0, c1, c2⟩ := h i hi
  refine ⟨_, hA, ?_⟩
  have e : (⟨b, off, none⟩ : Addr).add (i * 3 + r) = ⟨b, off + (i * 3 + r), none⟩ := by unfold Addr.add; split <;> simp_all
  rw [e]
  obtain rfl | rfl | rfl : r = 0 ∨ r = 1 ∨ r = 2 := by omega
  · rw [← hv]; exact c0
  · rw [← hv]; exact c1
  · rw [← hv]; exact c2
theorem Slone (xs : List Slot) : ∀ v ∈ xs.flatMap SlF, v.oneCell' = true := by
  intro v hv
  obtain ⟨x, _, hx⟩ := List.mem_flatMap.1 hv
  simp only [List.mem_cons, List.not_mem_nil, or_false] at hx
  obtain rfl | rfl | rfl := hx <;> rfl

/-- What Roomy leaves: a row of its own, what came in at its beginning, eighty marks behind it. -/
def SlRoomPost (xs : List Slot) (m : Slot) (w : World) (e : Ending) (w' : World) : Prop :=
  ∃ g, e = .returned (.slice (some ⟨g, 0, none⟩) (xs.length + 80) (xs.length + 80)) ∧ w.heap.size ≤ g ∧ SlotsAt w' (some ⟨g, 0, none⟩) (xs ++ List.replicate 80 m) ∧ Below w.heap.size w w'

theorem Slinfo : (Try.prog.info? 33).map (fun i => (i.zero, i.size, i.bytes)) = some (some (.agg #[.string ⟨#[]⟩, .int .i64 0, .int .i64 0]), 3, 32) := by kernel_rfl

set_option maxHeartbeats 800000 in
set_option maxRecDepth 100000 in
theorem Slroomy (A : Option Addr) (cap0 : Nat) (xs : List Slot) (m : Slot) (w : World) (hn : xs.length ≤ 4398046511104) (hr : SlotsAt w A xs) :
    Calls Try.prog 16 #[.slice A xs.length cap0, SlV m] w (SlRoomPost xs m w) := by
  obtain ⟨i0, hi, hz0, hz1, hz2⟩ := info_parts Slinfo
  have hmk : ∀ u : World, (Instr.makeSlice 22 (.int .i64 ((xs.length : Int) + 80)) (.int .i64 ((xs.length : Int) + 80))).run Try.prog u =
      .ok (.slice (some ⟨u.heap.size, 0, none⟩) (xs.length + 80) (xs.length + 80)) (u.alloc (.cells (madeCells #[.string ⟨#[]⟩, .int .i64 0, .int .i64 0] ((xs.length + 80) * 3)) 33)) := fun u => by
    have h := run_make (P := Try.prog) u 22 33 i0 (.agg #[.string ⟨#[]⟩, .int .i64 0, .int .i64 0]) Try.underlying22 hi hz0 .i64 .i64 ((xs.length : Int) + 80) ((xs.length : Int) + 80) (by omega) (Int.le_refl _) (by rw [hz2]; omega) (by omega)
    have e : ((xs.length : Int) + 80).toNat = xs.length + 80 := by omega
    rw [e] at h
    simpa [hz1, Value.cells] using h
  obtain ⟨cs, hcs⟩ : ∃ cs, cs = xs.flatMap SlF := ⟨_, rfl⟩
  have hlen : cs.length = xs.length * 3 := by rw [hcs]; exact fmap_len _ 3 SlF_len xs
  have ra := Row.alloc_new w #[.string m.subj, .int .i64 m.lo, .int .i64 m.hi] 33
  have hb0 : Below w.heap.size w (w.alloc (.cells #[.string m.subj, .int .i64 m.lo, .int .i64 m.hi] 33)) := (Below.refl _ w).alloc (Nat.le_refl _) _
  have rb := Row.alloc_new (w.alloc (.cells #[.string m.subj, .int .i64 m.lo, .int .i64 m.hi] 33)) (madeCells #[.string ⟨#[]⟩, .int .i64 0, .int .i64 0] ((xs.length + 80) * 3)) 33
  have ra' := ra.alloc (.cells (madeCells #[.string ⟨#[]⟩, .int .i64 0, .int .i64 0] ((xs.length + 80) * 3)) 33)
  have hb1 : Below w.heap.size w ((w.alloc (.cells #[.string m.subj, .int .i64 m.lo, .int .i64 m.hi] 33)).alloc (.cells (madeCells #[.string ⟨#[]⟩, .int .i64 0, .int .i64 0] ((xs.length + 80) * 3)) 33)) := hb0.alloc (by simp) _
  simp only [World.size_alloc] at rb
  have hcp := run_copy_wide (P := Try.prog) ((w.alloc (.cells #[.string m.subj, .int .i64 m.lo, .int .i64 m.hi] 33)).alloc (.cells (madeCells #[.string ⟨#[]⟩, .int .i64 0, .int .i64 0] ((xs.length + 80) * 3)) 33)) 22 3 33 (w.heap.size + 1) (xs.length + 80) (xs.length + 80) 3 xs.length A xs.length cap0 _ 33 cs
    Try.underlying22 (by rw [hi]; exact congrArg some hz1) rb (by show _ = min _ _; omega) hlen (by rw [hcs]; exact Slsrc (hr.below hb1)) (by rw [size_madeCells, hlen]; omega) (by rw [hcs]; exact Slone xs)
  have hR := SlRoom.first xs m cs hcs
  have rc := rb.setRow (cs ++ (madeCells #[.string ⟨#[]⟩, .int .i64 0, .int .i64 0] ((xs.length + 80) * 3)).toList.drop cs.length).toArray
  have rm := (Upd.setRow ((w.alloc (.cells #[.string m.subj, .int .i64 m.lo, .int .i64 m.hi] 33)).alloc (.cells (madeCells #[.string ⟨#[]⟩, .int .i64 0, .int .i64 0] ((xs.length + 80) * 3)) 33)) (w.heap.size + 1) (cs ++ (madeCells #[.string ⟨#[]⟩, .int .i64 0, .int .i64 0] ((xs.length + 80) * 3)).toList.drop cs.length).toArray).row ra' (by simp)
  have hb2 := hb1.trans ((Upd.setRow ((w.alloc (.cells #[.string m.subj, .int .i64 m.lo, .int .i64 m.hi] 33)).alloc (.cells (madeCells #[.string ⟨#[]⟩, .int .i64 0, .int .i64 0] ((xs.length + 80) * 3)) 33)) (w.heap.size + 1) (cs ++ (madeCells #[.string ⟨#[]⟩, .int .i64 0, .int .i64 0] ((xs.length + 80) * 3)).toList.drop cs.length).toArray).below (B := w.heap.size) (by rintro b rfl; omega) (by simp; omega))
  generalize hc0 : (cs ++ (madeCells #[.string ⟨#[]⟩, .int .i64 0, .int .i64 0] ((xs.length + 80) * 3)).toList.drop cs.length).toArray = cur0 at hcp hR rc rm hb2
  generalize hw2 : ((w.alloc (.cells #[.string m.subj, .int .i64 m.lo, .int .i64 m.hi] 33)).alloc (.cells (madeCells #[.string ⟨#[]⟩, .int .i64 0, .int .i64 0] ((xs.length + 80) * 3)) 33)).setRow (w.heap.size + 1) cur0 = w2 at hcp rc rm hb2
  have HR := hide hR
  have RC := hide rc
  have RM := hide rm
  have HB := hide hb2
  clear hr hz0 hz1 hz2 hi hcs hlen ra hb0 rb ra' hb1 hR rc rm hb2 hc0 hw2
  go_enter Try.func16, Try.ntmps16
  go_wp2_with fail
  clear hcp hmk
  obtain ⟨N, hN⟩ : ∃ N, N = w.heap.size := ⟨_, rfl⟩
  have HN := hide hN
  rw [← hN] at RC RM ⊢
  clear hN
  go_loopw [6] (fun v6 wr => ∃ (k : Nat) (cur : Array Value), v6 = .int .i64 ((xs.length + k : Nat) : Int) ∧ k ≤ 80 ∧ Hid (SlRoom cur xs m k) ∧ Hid (Row wr (N + 1) 33 cur) ∧ Hid (Row wr N 33 #[.string m.subj, .int .i64 m.lo, .int .i64 m.hi]) ∧ Hid (Below w.heap.size w wr)) (fun v _ => xs.length + 80 - (intOf v).toNat)
  case atStart => exact ⟨0, cur0, rfl, Nat.zero_le _, HR, RC, RM, HB⟩
  case round =>
    obtain ⟨k, cur, rfl, hk, HR, RC, RM, HB⟩ := hrel
    by_cases hlt : k < 80
    · have hsz := HR.out.1
      have m0 := RM.out.cell (o := 0) rfl
      have m1 := RM.out.cell (o := 1) rfl
      have m2 := RM.out.cell (o := 2) rfl
      obtain ⟨u0, hu0⟩ : ∃ u, cur[(xs.length + k) * 3]? = some u := ⟨_, Array.getElem?_eq_getElem (by omega)⟩
      have d0 := RC.out.cell hu0
      have z0 := RC.out.frozen ((xs.length + k) * 3)
      obtain ⟨u1, hu1⟩ : ∃ u, cur[(xs.length + k) * 3 + 1]? = some u := ⟨_, Array.getElem?_eq_getElem (by omega)⟩
      have d1 := RC.out.cell hu1
      have z1 := RC.out.frozen ((xs.length + k) * 3 + 1)
      obtain ⟨u2, hu2⟩ : ∃ u, cur[(xs.length + k) * 3 + 2]? = some u := ⟨_, Array.getElem?_eq_getElem (by omega)⟩
      have d2 := RC.out.cell hu2
      have z2 := RC.out.frozen ((xs.length + k) * 3 + 2)
      have HR2 := hide (HR.out.next hlt)
      have RC2 := hide ((((((RC.out).setCell ((xs.length + k) * 3) (.string m.subj))).setCell ((xs.length + k) * 3 + 1) (.int .i64 m.lo))).setCell ((xs.length + k) * 3 + 2) (.int .i64 m.hi))
      have RM2 := hide ((((((RM.out).setCell_ne (a := ⟨N + 1, (xs.length + k) * 3, none⟩) (by simp) (.string m.subj))).setCell_ne (a := ⟨N + 1, (xs.length + k) * 3 + 1, none⟩) (by simp) (.int .i64 m.lo))).setCell_ne (a := ⟨N + 1, (xs.length + k) * 3 + 2, none⟩) (by simp) (.int .i64 m.hi))
      have HB2 := hide ((((((HB.out).setCell (p := ⟨N + 1, (xs.length + k) * 3, none⟩) (by rw [HN.out]; exact Nat.le_succ _) (.string m.subj))).setCell (p := ⟨N + 1, (xs.length + k) * 3 + 1, none⟩) (by rw [HN.out]; exact Nat.le_succ _) (.int .i64 m.lo))).setCell (p := ⟨N + 1, (xs.length + k) * 3 + 2, none⟩) (by rw [HN.out]; exact Nat.le_succ _) (.int .i64 m.hi))
      clear hu0 hu1 hu2
      go_wp2_with fail
      go_roundw
      case rel => exact ⟨k + 1, _, by go_num, by omega, HR2, RC2, RM2, HB2⟩
      case measure => simp [intOf]; omega
    · obtain rfl : k = 80 := by omega
      go_wp2_with fail
      go_ret
      exact ⟨N + 1, rfl, by rw [HN.out]; exact Nat.le_succ _, HR.out.at RC.out, HB.out⟩
end LA
end Go.Proofs.Ytenfikfgliljmaa
