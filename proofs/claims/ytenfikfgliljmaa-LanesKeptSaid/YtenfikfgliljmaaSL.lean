/- Slices of slots: Roomy, Same, Intact, opened. -/
import Derived.Test.YtenfikfgliljmaaAB
import Derived.Test.YtenfikfgliljmaaMA
import Derived.Test.YtenfikfgliljmaaCC
import Derived.Test.YtenfikfgliljmaaZ0
import Derived.Deep.Slices
import Derived.Deep.Fields
import Derived.Test.YtenfikfgliljmaaST
/- bulkheadbook's Roomy, Same, Intact of Slots. -/
namespace Go.Proofs.Ytenfikfgliljmaa
open Go.RowKit
namespace LA
abbrev SlF (x : Slot) : List Value := [.string x.subj, .int .i64 x.lo, .int .i64 x.hi]
abbrev SlV (x : Slot) : Value := .agg #[.string x.subj, .int .i64 x.lo, .int .i64 x.hi]
def SlZ : Slot := ⟨⟨#[]⟩, 0, 0⟩
theorem SlF_len (x : Slot) : (SlF x).length = 3 := rfl

/-- An element of the room: what came in, then marks, then nothing. -/
def SlAt (xs : List Slot) (m : Slot) (k i : Nat) : Slot := if h : i < xs.length then xs[i] else if i < xs.length + k then m else SlZ
/-- So many marks lie in the room. -/
def SlRoom (cur : Array Value) (xs : List Slot) (m : Slot) (k : Nat) : Prop :=
  cur.size = (xs.length + 80) * 3 ∧ ∀ i, i < xs.length + 80 → cur[i * 3]? = some (.string (SlAt xs m k i).subj) ∧ cur[i * 3 + 1]? = some (.int .i64 (SlAt xs m k i).lo) ∧ cur[i * 3 + 2]? = some (.int .i64 (SlAt xs m k i).hi)

theorem SlRoom.first (xs : List Slot) (m : Slot) (cs : List Value) (hcs : cs = xs.flatMap SlF) : SlRoom (cs ++ (madeCells #[.string ⟨#[]⟩, .int .i64 0, .int .i64 0] ((xs.length + 80) * 3)).toList.drop cs.length).toArray xs m 0 := by
  have hl : cs.length = xs.length * 3 := by rw [hcs]; exact fmap_len _ 3 SlF_len xs
  refine ⟨by simp [size_madeCells, hl]; omega, fun i hi => ?_⟩
  by_cases h : i < xs.length
  · have e : SlAt xs m 0 i = xs[i] := by unfold SlAt; rw [dif_pos h]
    rw [e]
    have key : ∀ j, j < 3 → (cs ++ (madeCells #[.string ⟨#[]⟩, .int .i64 0, .int .i64 0] ((xs.length + 80) * 3)).toList.drop cs.length).toArray[i * 3 + j]? = (SlF xs[i])[j]? := fun j hj => by
      rw [List.getElem?_toArray, List.getElem?_append_left (by omega), hcs]
      exact fmap_get _ 3 SlF_len xs i j h hj
    exact ⟨key 0 (by omega), key 1 (by omega), key 2 (by omega)⟩
  · have e : SlAt xs m 0 i = SlZ := by unfold SlAt; rw [dif_neg h, if_neg (by omega)]
    rw [e]
    have key : ∀ j, j < 3 → (cs ++ (madeCells #[.string ⟨#[]⟩, .int .i64 0, .int .i64 0] ((xs.length + 80) * 3)).toList.drop cs.length).toArray[i * 3 + j]? = some ((#[.string ⟨#[]⟩, .int .i64 0, .int .i64 0] : Array Value)[j]!) := fun j hj => by
      rw [List.getElem?_toArray, List.getElem?_append_right (by omega), List.getElem?_drop, show cs.length + (i * 3 + j - cs.length) = i * 3 + j by omega, Array.getElem?_toList, made_get _ _ _ (by omega)]
      rw [show (#[.string ⟨#[]⟩, .int .i64 0, .int .i64 0] : Array Value).size = 3 from rfl, show (i * 3 + j) % 3 = j by omega]
    exact ⟨key 0 (by omega), key 1 (by omega), key 2 (by omega)⟩

theorem SlRoom.next {cur : Array Value} {xs : List Slot} {m : Slot} {k : Nat} (h : SlRoom cur xs m k) (hk : k < 80) : SlRoom (((cur.setIfInBounds ((xs.length + k) * 3) (.string m.subj)).setIfInBounds ((xs.length + k) * 3 + 1) (.int .i64 m.lo)).setIfInBounds ((xs.length + k) * 3 + 2) (.int .i64 m.hi)) xs m (k + 1) := by
  refine ⟨by simp only [Array.size_setIfInBounds]; exact h.1, fun i hi => ?_⟩
  have hz := h.1
  have hc := h.2 i hi
  simp only [Array.getElem?_setIfInBounds, Array.size_setIfInBounds]
  by_cases e : i = xs.length + k
  · subst e
    have e1 : SlAt xs m (k + 1) (xs.length + k) = m := by unfold SlAt; rw [dif_neg (by omega), if_pos (by omega)]
    rw [e1]
    refine ⟨?_, ?_, ?_⟩
    · rw [if_neg (by omega)]; rw [if_neg (by omega)]; rw [if_pos rfl, if_pos (by omega)]
    · rw [if_neg (by omega)]; rw [if_pos rfl, if_pos (by omega)]
    · rw [if_pos rfl, if_pos (by omega)]
  · have e1 : SlAt xs m (k + 1) i = SlAt xs m k i := by
      unfold SlAt
      by_cases h1 : i < xs.length
      · rw [dif_pos h1, dif_pos h1]
      · rw [dif_neg h1, dif_neg h1]
        by_cases h2 : i < xs.length + k
        · rw [if_pos h2, if_pos (by omega)]
        · rw [if_neg h2, if_neg (by omega)]
    rw [e1]
    refine ⟨?_, ?_, ?_⟩
    · rw [if_neg (by omega)]; rw [if_neg (by omega)]; rw [if_neg (by omega)]; exact hc.1
    · rw [if_neg (by omega)]; rw [if_neg (by omega)]; rw [if_neg (by omega)]; exact hc.2.1
    · rw [if_neg (by omega)]; rw [if_neg (by omega)]; rw [if_neg (by omega)]; exact hc.2.2

theorem SlRoom.at {w : World} {g : Nat} {cur : Array Value} {xs : List Slot} {m : Slot} (h : SlRoom cur xs m 80) (hr : Row w g 33 cur) : SlotsAt w (some ⟨g, 0, none⟩) (xs ++ List.replicate 80 m) := by
  intro i hi
  have hi' : i < xs.length + 80 := by simpa using hi
  have hc := h.2 i hi'
  have e : SlAt xs m 80 i = (xs ++ List.replicate 80 m)[i] := by
    unfold SlAt
    by_cases h1 : i < xs.length
    · rw [dif_pos h1, List.getElem_append_left h1]
    · rw [dif_neg h1, if_pos hi', List.getElem_append_right (by omega), List.getElem_replicate]
  rw [e] at hc
  refine ⟨g, 0, rfl, ?_, ?_, ?_⟩
  · rw [Nat.zero_add]; exact hr.cell (hc.1)
  · rw [Nat.zero_add]; exact hr.cell (hc.2.1)
  · rw [Nat.zero_add]; exact hr.cell (hc.2.2)

theorem Slsrc {w : World} {A : Option Addr} {xs : List Slot} (h : SlotsAt w A xs) : ∀ j v, (xs.flatMap SlF)[j]? = some v → ∃ a, A = some a ∧ w.cell? (a.add j) = some v := by
  intro j v hv
  have hj : j < xs.length * 3 := by
    have := (List.getElem?_eq_some_iff.1 hv).1
    rwa [fmap_len _ 3 SlF_len] at this
  obtain ⟨i, r, hr, rfl⟩ : ∃ i r, r < 3 ∧ j = i * 3 + r := ⟨j / 3, j % 3, by omega, by omega⟩
  have hi : i < xs.length := by omega
  rw [fmap_get _ 3 SlF_len xs i r hi hr] at hv
  obtain ⟨b, off, hA, c0, c1, c2⟩ := h i hi
  refine ⟨_, hA, ?_⟩
  have e : (⟨b, off, none⟩ : Addr).add (i * 3 + r) = ⟨b, off + (i * 3 + r), none⟩ := by unfold Addr.add; split <;> simp_all
  rw [e]
  obtain rfl | rfl | rfl : r = 0 ∨ r = 1 ∨ r = 2 := by omega
  · rw [← hv]; exact c0
  · rw [← hv]; exact c1
  · rw [← hv]; exact c2
theorem Slone (xs : List Slot) : ∀ v ∈ xs.flatMap SlF, v.oneCell' = true := by
  intro v hv
  obtain ⟨x, _, hx⟩ := List.mem_flatMap.1 hv
  simp only [List.mem_cons, List.not_mem_nil, or_false] at hx
  obtain rfl | rfl | rfl := hx <;> rfl

/-- What Roomy leaves: a row of its own, what came in at its beginning, eighty marks behind it. -/
def SlRoomPost (xs : List Slot) (m : Slot) (w : World) (e : Ending) (w' : World) : Prop :=
  ∃ g, e = .returned (.slice (some ⟨g, 0, none⟩) (xs.length + 80) (xs.length + 80)) ∧ w.heap.size ≤ g ∧ SlotsAt w' (some ⟨g, 0, none⟩) (xs ++ List.replicate 80 m) ∧ Below w.heap.size w w'

theorem Slinfo : (Try.prog.info? 33).map (fun i => (i.zero, i.size, i.bytes)) = some (some (.agg #[.string ⟨#[]⟩, .int .i64 0, .int .i64 0]), 3, 32) := by kernel_rfl

set_option maxHeartbeats 800000 in
set_option maxRecDepth 100000 in
theorem Slroomy (A : Option Addr) (cap0 : Nat) (xs : List Slot) (m : Slot) (w : World) (hn : xs.length ≤ 4398046511104) (hr : SlotsAt w A xs) :
    Calls Try.prog 16 #[.slice A xs.length cap0, SlV m] w (SlRoomPost xs m w) := by
  obtain ⟨i0, hi, hz0, hz1, hz2⟩ := info_parts Slinfo
  have hmk : ∀ u : World, (Instr.makeSlice 22 (.int .i64 ((xs.length : Int) + 80)) (.int .i64 ((xs.length : Int) + 80))).run Try.prog u =
      .ok (.slice (some ⟨u.heap.size, 0, none⟩) (xs.length + 80) (xs.length + 80)) (u.alloc (.cells (madeCells #[.string ⟨#[]⟩, .int .i64 0, .int .i64 0] ((xs.length + 80) * 3)) 33)) := fun u => by
    have h := run_make (P := Try.prog) u 22 33 i0 (.agg #[.string ⟨#[]⟩, .int .i64 0, .int .i64 0]) Try.underlying22 hi hz0 .i64 .i64 ((xs.length : Int) + 80) ((xs.length : Int) + 80) (by omega) (Int.le_refl _) (by rw [hz2]; omega) (by omega)
    have e : ((xs.length : Int) + 80).toNat = xs.length + 80 := by omega
    rw [e] at h
    simpa [hz1, Value.cells] using h
  obtain ⟨cs, hcs⟩ : ∃ cs, cs = xs.flatMap SlF := ⟨_, rfl⟩
  have hlen : cs.length = xs.length * 3 := by rw [hcs]; exact fmap_len _ 3 SlF_len xs
  have ra := Row.alloc_new w #[.string m.subj, .int .i64 m.lo, .int .i64 m.hi] 33
  have hb0 : Below w.heap.size w (w.alloc (.cells #[.string m.subj, .int .i64 m.lo, .int .i64 m.hi] 33)) := (Below.refl _ w).alloc (Nat.le_refl _) _
  have rb := Row.alloc_new (w.alloc (.cells #[.string m.subj, .int .i64 m.lo, .int .i64 m.hi] 33)) (madeCells #[.string ⟨#[]⟩, .int .i64 0, .int .i64 0] ((xs.length + 80) * 3)) 33
  have ra' := ra.alloc (.cells (madeCells #[.string ⟨#[]⟩, .int .i64 0, .int .i64 0] ((xs.length + 80) * 3)) 33)
  have hb1 : Below w.heap.size w ((w.alloc (.cells #[.string m.subj, .int .i64 m.lo, .int .i64 m.hi] 33)).alloc (.cells (madeCells #[.string ⟨#[]⟩, .int .i64 0, .int .i64 0] ((xs.length + 80) * 3)) 33)) := hb0.alloc (by simp) _
  simp only [World.size_alloc] at rb
  have hcp := run_copy_wide (P := Try.prog) ((w.alloc (.cells #[.string m.subj, .int .i64 m.lo, .int .i64 m.hi] 33)).alloc (.cells (madeCells #[.string ⟨#[]⟩, .int .i64 0, .int .i64 0] ((xs.length + 80) * 3)) 33)) 22 3 33 (w.heap.size + 1) (xs.length + 80) (xs.length + 80) 3 xs.length A xs.length cap0 _ 33 cs
    Try.underlying22 (by rw [hi]; exact congrArg some hz1) rb (by show _ = min _ _; omega) hlen (by rw [hcs]; exact Slsrc (hr.below hb1)) (by rw [size_madeCells, hlen]; omega) (by rw [hcs]; exact Slone xs)
  have hR := SlRoom.first xs m cs hcs
  have rc := rb.setRow (cs ++ (madeCells #[.string ⟨#[]⟩, .int .i64 0, .int .i64 0] ((xs.length + 80) * 3)).toList.drop cs.length).toArray
  have rm := (Upd.setRow ((w.alloc (.cells #[.string m.subj, .int .i64 m.lo, .int .i64 m.hi] 33)).alloc (.cells (madeCells #[.string ⟨#[]⟩, .int .i64 0, .int .i64 0] ((xs.length + 80) * 3)) 33)) (w.heap.size + 1) (cs ++ (madeCells #[.string ⟨#[]⟩, .int .i64 0, .int .i64 0] ((xs.length + 80) * 3)).toList.drop cs.length).toArray).row ra' (by simp)
  have hb2 := hb1.trans ((Upd.setRow ((w.alloc (.cells #[.string m.subj, .int .i64 m.lo, .int .i64 m.hi] 33)).alloc (.cells (madeCells #[.string ⟨#[]⟩, .int .i64 0, .int .i64 0] ((xs.length + 80) * 3)) 33)) (w.heap.size + 1) (cs ++ (madeCells #[.string ⟨#[]⟩, .int .i64 0, .int .i64 0] ((xs.length + 80) * 3)).toList.drop cs.length).toArray).below (B := w.heap.size) (by rintro b rfl; omega) (by simp; omega))
  generalize hc0 : (cs ++ (madeCells #[.string ⟨#[]⟩, .int .i64 0, .int .i64 0] ((xs.length + 80) * 3)).toList.drop cs.length).toArray = cur0 at hcp hR rc rm hb2
  generalize hw2 : ((w.alloc (.cells #[.string m.subj, .int .i64 m.lo, .int .i64 m.hi] 33)).alloc (.cells (madeCells #[.string ⟨#[]⟩, .int .i64 0, .int .i64 0] ((xs.length + 80) * 3)) 33)).setRow (w.heap.size + 1) cur0 = w2 at hcp rc rm hb2
  have HR := hide hR
  have RC := hide rc
  have RM := hide rm
  have HB := hide hb2
  clear hr hz0 hz1 hz2 hi hcs hlen ra hb0 rb ra' hb1 hR rc rm hb2 hc0 hw2
  go_enter Try.func16, Try.ntmps16
  go_wp2_with fail
  clear hcp hmk
  obtain ⟨N, hN⟩ : ∃ N, N = w.heap.size := ⟨_, rfl⟩
  have HN := hide hN
  rw [← hN] at RC RM ⊢
  clear hN
  go_loopw [6] (fun v6 wr => ∃ (k : Nat) (cur : Array Value), v6 = .int .i64 ((xs.length + k : Nat) : Int) ∧ k ≤ 80 ∧ Hid (SlRoom cur xs m k) ∧ Hid (Row wr (N + 1) 33 cur) ∧ Hid (Row wr N 33 #[.string m.subj, .int .i64 m.lo, .int .i64 m.hi]) ∧ Hid (Below w.heap.size w wr)) (fun v _ => xs.length + 80 - (intOf v).toNat)
  case atStart => exact ⟨0, cur0, rfl, Nat.zero_le _, HR, RC, RM, HB⟩
  case round =>
    obtain ⟨k, cur, rfl, hk, HR, RC, RM, HB⟩ := hrel
    by_cases hlt : k < 80
    · have hsz := HR.out.1
      have m0 := RM.out.cell (o := 0) rfl
      have m1 := RM.out.cell (o := 1) rfl
      have m2 := RM.out.cell (o := 2) rfl
      obtain ⟨u0, hu0⟩ : ∃ u, cur[(xs.length + k) * 3]? = some u := ⟨_, Array.getElem?_eq_getElem (by omega)⟩
      have d0 := RC.out.cell hu0
      have z0 := RC.out.frozen ((xs.length + k) * 3)
      obtain ⟨u1, hu1⟩ : ∃ u, cur[(xs.length + k) * 3 + 1]? = some u := ⟨_, Array.getElem?_eq_getElem (by omega)⟩
      have d1 := RC.out.cell hu1
      have z1 := RC.out.frozen ((xs.length + k) * 3 + 1)
      obtain ⟨u2, hu2⟩ : ∃ u, cur[(xs.length + k) * 3 + 2]? = some u := ⟨_, Array.getElem?_eq_getElem (by omega)⟩
      have d2 := RC.out.cell hu2
      have z2 := RC.out.frozen ((xs.length + k) * 3 + 2)
      have HR2 := hide (HR.out.next hlt)
      have RC2 := hide ((((((RC.out).setCell ((xs.length + k) * 3) (.string m.subj))).setCell ((xs.length + k) * 3 + 1) (.int .i64 m.lo))).setCell ((xs.length + k) * 3 + 2) (.int .i64 m.hi))
      have RM2 := hide ((((((RM.out).setCell_ne (a := ⟨N + 1, (xs.length + k) * 3, none⟩) (by simp) (.string m.subj))).setCell_ne (a := ⟨N + 1, (xs.length + k) * 3 + 1, none⟩) (by simp) (.int .i64 m.lo))).setCell_ne (a := ⟨N + 1, (xs.length + k) * 3 + 2, none⟩) (by simp) (.int .i64 m.hi))
      have HB2 := hide ((((((HB.out).setCell (p := ⟨N + 1, (xs.length + k) * 3, none⟩) (by rw [HN.out]; exact Nat.le_succ _) (.string m.subj))).setCell (p := ⟨N + 1, (xs.length + k) * 3 + 1, none⟩) (by rw [HN.out]; exact Nat.le_succ _) (.int .i64 m.lo))).setCell (p := ⟨N + 1, (xs.length + k) * 3 + 2, none⟩) (by rw [HN.out]; exact Nat.le_succ _) (.int .i64 m.hi))
      clear hu0 hu1 hu2
      go_wp2_with fail
      go_roundw
      case rel => exact ⟨k + 1, _, by go_num, by omega, HR2, RC2, RM2, HB2⟩
      case measure => simp [intOf]; omega
    · obtain rfl : k = 80 := by omega
      go_wp2_with fail
      go_ret
      exact ⟨N + 1, rfl, by rw [HN.out]; exact Nat.le_succ _, HR.out.at RC.out, HB.out⟩
end LA
end Go.Proofs.Ytenfikfgliljmaa
/- bulkheadbook's Same and Intact of Slots: true where both read alike. -/
namespace Go.Proofs.Ytenfikfgliljmaa
open Go.RowKit
namespace LA
/-- True; nothing that stood there is turned. -/
def SlYesPost (w : World) (e : Ending) (w' : World) : Prop := e = .returned (.bool true) ∧ Below w.heap.size w w'

set_option maxHeartbeats 800000 in
set_option maxRecDepth 100000 in
theorem Slsame (A B : Option Addr) (ca cb : Nat) (xs : List Slot) (w : World) (hn : xs.length ≤ 4398046511104) (ha : SlotsAt w A xs) (hb : SlotsAt w B xs) :
    Calls Try.prog 31 #[.slice A xs.length ca, .slice B xs.length cb] w (SlYesPost w) := by
  have HA := hide ha
  have HB := hide hb
  clear ha hb
  go_enter Try.func31, Try.ntmps31
  go_wp2_with fail
  go_loopw [5] (fun v wr => ∃ k m : Nat, v = .int .i64 (k : Int) ∧ k ≤ xs.length ∧ wr = w.drewN m) (fun v _ => xs.length - (intOf v).toNat)
  case atStart => exact ⟨0, 0, rfl, Nat.zero_le _, rfl⟩
  case round =>
    obtain ⟨k, m, rfl, hk, rfl⟩ := hrel
    by_cases hlt : k < xs.length
    · obtain ⟨b, off, hA, n0, n1, n2⟩ := HA.out k hlt
      subst hA
      obtain ⟨b', off', hB, o0, o1, o2⟩ := HB.out k hlt
      subst hB
      generalize xs[k] = x at *
      go_wp2_with fail
      go_quiet (fail)
      go_wp2_with fail
      go_roundw
      case rel => exact ⟨k + 1, _, by go_num, by omega, rfl⟩
      case measure => simp [intOf]; omega
    · obtain rfl : k = xs.length := by omega
      go_wp2_with fail
      go_ret
      exact ⟨rfl, bdn (Below.refl _ _) _⟩

theorem Slpre {w : World} {A : Option Addr} {xs ys : List Slot} (h : SlotsAt w A (xs ++ ys)) : SlotsAt w A xs := fun i hi => by
  have := h i (by simp; omega)
  rwa [List.getElem_append_left hi] at this
theorem Slmark {w : World} {A : Option Addr} {xs : List Slot} {m : Slot} {n : Nat} (h : SlotsAt w A (xs ++ List.replicate n m)) (i : Nat) (h1 : xs.length ≤ i) (h2 : i < xs.length + n) :
    ∃ b off, A = some ⟨b, off, none⟩ ∧ w.cell? ⟨b, off + i * 3, none⟩ = some (.string m.subj) ∧ w.cell? ⟨b, off + i * 3 + 1, none⟩ = some (.int .i64 m.lo) ∧ w.cell? ⟨b, off + i * 3 + 2, none⟩ = some (.int .i64 m.hi) := by
  have := h i (by simp; omega)
  rwa [List.getElem_append_right h1, List.getElem_replicate] at this

set_option maxHeartbeats 800000 in
set_option maxRecDepth 100000 in
theorem Slintact (g : Nat) (A : Option Addr) (cap0 : Nat) (xs : List Slot) (m : Slot) (w : World) (hn : xs.length ≤ 4398046511104) (hf : SlotsAt w (some ⟨g, 0, none⟩) (xs ++ List.replicate 80 m)) (hr : SlotsAt w A xs) :
    Calls Try.prog 23 #[.slice (some ⟨g, 0, none⟩) (xs.length + 80) (xs.length + 80), .slice A xs.length cap0, SlV m] w (SlYesPost w) := by
  have hb0 : Below w.heap.size w (w.alloc (.cells #[.string m.subj, .int .i64 m.lo, .int .i64 m.hi] 33)) := (Below.refl _ w).alloc (Nat.le_refl _) _
  have ra := Row.alloc_new w #[.string m.subj, .int .i64 m.lo, .int .i64 m.hi] 33
  have Hs := hide (Slsame (some ⟨g, 0, none⟩) A (xs.length + 80) cap0 xs (w.alloc (.cells #[.string m.subj, .int .i64 m.lo, .int .i64 m.hi] 33)) hn (Slpre (hf.below hb0)) (hr.below hb0))
  have HF := hide (hf.below hb0)
  have RA := hide ra
  have HB0 := hide hb0
  clear hf hr hb0 ra
  go_enter Try.func23, Try.ntmps23
  go_wp2_with fail
  refine Hs.out.mono ?_
  rintro e w1 ⟨rfl, hb⟩
  have HF1 := hide (HF.out.below hb)
  have RA1 : Hid (Row w1 w.heap.size 33 #[.string m.subj, .int .i64 m.lo, .int .i64 m.hi]) := hide ((hb.block _ (by simp)).trans RA.out)
  have HB1 := hide (HB0.out.trans (hb.mono (by simp)))
  clear hb
  have m0 := RA1.out.cell (o := 0) rfl
  have m1 := RA1.out.cell (o := 1) rfl
  have m2 := RA1.out.cell (o := 2) rfl
  go_wp2_with fail
  go_loopw [7] (fun v wr => ∃ k d : Nat, v = .int .i64 (k : Int) ∧ xs.length ≤ k ∧ k ≤ xs.length + 80 ∧ wr = w1.drewN d) (fun v _ => xs.length + 80 - (intOf v).toNat)
  case atStart => exact ⟨xs.length, 0, rfl, Nat.le_refl _, by omega, rfl⟩
  case round =>
    obtain ⟨k, d, rfl, hk0, hk, rfl⟩ := hrel
    by_cases hlt : k < xs.length + 80
    · obtain ⟨b, off, hA, n0, n1, n2⟩ := Slmark HF1.out k hk0 hlt
      cases hA
      simp only [Nat.zero_add] at n0 n1 n2
      go_wp2_with fail
      go_quiet (fail)
      go_wp2_with fail
      go_roundw
      case rel => exact ⟨k + 1, _, by go_num, by omega, by omega, rfl⟩
      case measure => simp [intOf]; omega
    · obtain rfl : k = xs.length + 80 := by omega
      go_wp2_with fail
      go_ret
      exact ⟨rfl, bdn HB1.out _⟩
end LA
end Go.Proofs.Ytenfikfgliljmaa
/- An argument that is a slice of Slots, opened. -/
namespace Go.Proofs.Ytenfikfgliljmaa.LA
open Go.ChangeShapes Go.WideShapes Go.ChangeAt Go.RowKit Go.Deep
theorem Slcells : Try.prog.cellsOf 33 = 3 := by kernel_rfl
theorem Slc3 : Try.prog.cellsOf 3 = 1 := by kernel_rfl
theorem Slc9 : Try.prog.cellsOf 9 = 1 := by kernel_rfl

/-- The numbers of a Slot are of their kinds. -/
def SlOk (x : Slot) : Prop := (-9223372036854775808 ≤ x.lo ∧ x.lo ≤ 9223372036854775807) ∧ (-9223372036854775808 ≤ x.hi ∧ x.hi ≤ 9223372036854775807)
set_option maxRecDepth 100000 in
theorem Slelem {H : Type} {enc : TypeId × Value → H} {W : World} {n : Nat} {a : Addr} {i : Nat} {cs : List Value} {y : DataW H × List MemPlace} (hs : a.spot = none) (hc : W.cells? 0 (a.add (i * 3)) 3 = some cs)
    (ht : DataW.trod enc Try.prog W 0 (fun _ => true) true n 33 cs = some y) : ∃ x : Slot, SlOk x ∧ W.cell? ⟨a.block, a.off + i * 3, none⟩ = some (.string x.subj) ∧ W.cell? ⟨a.block, a.off + i * 3 + 1, none⟩ = some (.int .i64 x.lo) ∧ W.cell? ⟨a.block, a.off + i * 3 + 2, none⟩ = some (.int .i64 x.hi) := by
  obtain ⟨_, hl, hat⟩ := World.cells?_some hc
  obtain ⟨ys, m, _, _, _, hyl, hf⟩ := DataW.trod_struct Try.underlying33 ht
  obtain ⟨c0, c1, c2, rfl⟩ : ∃ c0 c1 c2, cs = [c0, c1, c2] := by
    match cs, hl with
    | [c0, c1, c2], _ => exact ⟨c0, c1, c2, rfl⟩
  have g0 := hf 0 _ rfl
  have w0 := hat 0 (by omega)
  simp only [List.getElem?_cons_zero] at g0 w0
  have e0 : ys[0]? = some (ys[0]'(by rw [hyl]; decide)) := List.getElem?_eq_getElem _
  rw [e0] at g0
  obtain ⟨s0, q0, _, _⟩ := DataW.trod_string Try.underlying9 g0
  obtain rfl := (List.cons.inj q0).1
  rw [add_at _ (by rw [add_at _ hs]) 0, add_at _ hs] at w0
  have g1 := hf 1 _ rfl
  have w1 := hat 1 (by omega)
  simp only [List.getElem?_cons_zero, List.getElem?_cons_succ] at g1 w1
  have e1 : ys[1]? = some (ys[1]'(by rw [hyl]; decide)) := List.getElem?_eq_getElem _
  rw [e1] at g1
  obtain ⟨s1, q1, _, f1⟩ := DataW.trod_int Try.underlying3 g1
  obtain rfl := (List.cons.inj q1).1
  rw [add_at _ (by rw [add_at _ hs]) 1, add_at _ hs] at w1
  have g2 := hf 2 _ rfl
  have w2 := hat 2 (by omega)
  simp only [List.getElem?_cons_zero, List.getElem?_cons_succ] at g2 w2
  have e2 : ys[2]? = some (ys[2]'(by rw [hyl]; decide)) := List.getElem?_eq_getElem _
  rw [e2] at g2
  obtain ⟨s2, q2, _, f2⟩ := DataW.trod_int Try.underlying3 g2
  obtain rfl := (List.cons.inj q2).1
  rw [add_at _ (by rw [add_at _ hs]) 2, add_at _ hs] at w2
  refine ⟨⟨s0, s1, s2⟩, ?_, ?_, ?_, ?_⟩
  · exact ⟨wf_i64 f1, wf_i64 f2⟩
  · simpa [Nat.add_assoc] using w0
  · simpa [Nat.add_assoc] using w1
  · simpa [Nat.add_assoc] using w2

set_option maxRecDepth 100000 in
theorem Slopen {H : Type} {enc : TypeId × Value → H} {W : World} {base : Nat} {v : Value} {d : DataW H} {p : List MemPlace} (hval : Value.okWide Try.prog W .any base 22 v) (hd : DataW.Trod enc Try.prog W 0 (fun _ => true) true 22 v d p) :
    ∃ (A : Option Addr) (xs : List Slot) (cap : Nat), v = .slice A xs.length cap ∧ SlotsAt W A xs ∧ (∀ x, x ∈ xs → SlOk x) ∧ (xs = [] ∨ ∃ el sp, d = .slice el sp ∧ el.length = xs.length) := by
  obtain ⟨fuel, hf⟩ := hd
  rcases open_slice Try.underlying22 hf with ⟨hc, _⟩ | ⟨a, len, cap, m, n, D, Pl, hc, _, hl, _, hmm, hx, hi⟩
  · refine ⟨none, [], 0, ?_, (fun i h => absurd h (Nat.not_lt_zero i)), (fun x hx => by cases hx), .inl rfl⟩
    simp only [Value.okWide, Try.underlying22, Cell.okWide, Cell.ok] at hval
    cases v <;> simp_all [Value.cells]
  · have hv : v = .slice (some a) len cap := by
      simp only [Value.okWide, Try.underlying22, Cell.okWide, Cell.ok] at hval
      cases v <;> simp_all [Value.cells]
    subst hv
    simp only [Value.okWide, Try.underlying22, Cell.okWide, Cell.ok] at hval
    have hs : a.spot = none := hval.2.2.2.1
    have key : ∀ i, ∃ x : Slot, i < len → SlOk x ∧ W.cell? ⟨a.block, a.off + i * 3, none⟩ = some (.string x.subj) ∧ W.cell? ⟨a.block, a.off + i * 3 + 1, none⟩ = some (.int .i64 x.lo) ∧ W.cell? ⟨a.block, a.off + i * 3 + 2, none⟩ = some (.int .i64 x.hi) := fun i => by
      by_cases h : i < len
      · obtain ⟨cs', h1, h2⟩ := hi i (by rw [hmm]; simp; omega)
        rw [Slcells] at h1
        obtain ⟨x, hx⟩ := Slelem hs h1 h2
        exact ⟨x, fun _ => hx⟩
      · exact ⟨SlZ, fun h' => absurd h' h⟩
    obtain ⟨f, hf2⟩ := Classical.axiomOfChoice key
    have hlen : ((List.range len).map f).length = len := by simp
    refine ⟨some a, (List.range len).map f, cap, by rw [hlen], ?_, ?_, .inr ⟨_, _, congrArg Prod.fst hx, by simp⟩⟩
    · intro i h
      have h' : i < len := by simpa using h
      refine ⟨a.block, a.off, by rw [← hs], ?_⟩
      simpa using (hf2 i h').2
    · intro x hx
      simp only [List.mem_map, List.mem_range] at hx
      obtain ⟨i, h, rfl⟩ := hx
      exact (hf2 i h).1
end Go.Proofs.Ytenfikfgliljmaa.LA
