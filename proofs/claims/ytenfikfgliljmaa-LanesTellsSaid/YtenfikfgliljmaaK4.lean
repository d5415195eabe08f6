/- bulkheadlaw9.LanesTells returns true. -/
import Derived.Test.YtenfikfgliljmaaK2
import Derived.Test.YtenfikfgliljmaaISl
import Derived.Test.YtenfikfgliljmaaD6
import Derived.Test.YtenfikfgliljmaaN0
namespace Go.Proofs.Ytenfikfgliljmaa
open Go.RowKit
namespace LA
abbrev sMark : ByteArray := ⟨#[109, 97, 114, 107]⟩
theorem rowLen_le {ys : List Slot} (hok : SlotsOk ys) : 0 ≤ rowLen ys ∧ rowLen ys ≤ 9223372036854775807 := by
  by_cases hz : rowLen ys = 0
  · omega
  · obtain ⟨a, b, c, d⟩ := rowGo_right (ys := ys) (p := none) (e := 0) (Int.le_refl 0) hz
    have hl : 0 < ys.length := by
      cases ys with
      | nil => simp [rowLen, rowGo] at hz
      | cons y r => simp
    obtain ⟨h1, h2⟩ := d hl
    have := (hok _ (List.getElem_mem h1)).2.2.2
    unfold rowLen; omega

set_option maxHeartbeats 1600000 in
set_option maxRecDepth 100000 in
theorem lanesTells_any (A : Option Addr) (cap0 : Nat) (xs : List Slot) (o : Int) (s : ByteArray) (w : World) (hn : xs.length ≤ 4398046511104) (hr : SlotsAt w A xs) (hok : SlotsOk xs) :
    Calls Try.prog 5 #[.slice A xs.length cap0, .int .i64 o, .string s] w (TruePost w) := by
  have hb := budL_bd s xs
  have hl := rowLen_le hok
  obtain ⟨r, h0, h1, hord⟩ : ∃ r, (rowLen xs = 0 → r = 0) ∧ (rowLen xs ≠ 0 → partBits (budL s xs) (rowLen xs) = some r) ∧ Ieee.double.order r r = some .eq := by
    by_cases h : rowLen xs = 0
    · exact ⟨0, fun _ => rfl, fun h' => absurd h h', by decide⟩
    · obtain ⟨r, h1, h2⟩ := part_some (b := budL s xs) (m := rowLen xs) hb.1 (by omega) h (by omega) (by omega)
      exact ⟨r, fun h' => absurd h' h, fun _ => h1, h2⟩
  have heq : (FloatKind.f64.format.order r r == some Ordering.eq) = true := by rw [show FloatKind.f64.format.order r r = some .eq from hord]; rfl
  have heq2 : FloatKind.f64.format.order r r = some Ordering.eq := hord
  have HRo := hide (Slroomy A cap0 xs ⟨sMark, 0, 0⟩ w hn hr)
  have HSc : Hid (∀ W g cap, SlotsAt W (some ⟨g, 0, none⟩) xs → Calls Try.prog 17 #[.slice (some ⟨g, 0, none⟩) xs.length cap, .int .i64 o] W fun e w' => e = .returned (.tuple #[.string (schedL xs o).1, .int .i64 (schedL xs o).2]) ∧ Below W.heap.size W w') := hide (fun W g cap h => sched_any _ cap xs o W hn h hok)
  have HRs : Hid (∀ W, SlotsAt W A xs → Calls Try.prog 18 #[.slice A xs.length cap0, .int .i64 o] W fun e w' => e = .returned (.tuple #[.string (schedL xs o).1, .int .i64 (schedL xs o).2]) ∧ Below W.heap.size W w') := hide (fun W h => refSched_any A cap0 xs o W hn h hok)
  have HBu : Hid (∀ W g cap, SlotsAt W (some ⟨g, 0, none⟩) xs → Calls Try.prog 19 #[.slice (some ⟨g, 0, none⟩) xs.length cap, .string s] W fun e w' => e = .returned (.int .i64 (budL s xs)) ∧ Below W.heap.size W w') := hide (fun W g cap h => budget_any _ cap xs s W hn h hok)
  have HRb : Hid (∀ W, SlotsAt W A xs → Calls Try.prog 20 #[.slice A xs.length cap0, .string s] W fun e w' => e = .returned (.int .i64 (budL s xs)) ∧ Below W.heap.size W w') := hide (fun W h => refBudget_any A cap0 xs s W hn h hok)
  have HSh : Hid (∀ W g cap, SlotsAt W (some ⟨g, 0, none⟩) xs → Calls Try.prog 21 #[.slice (some ⟨g, 0, none⟩) xs.length cap, .string s] W (SharePost r W)) := hide (fun W g cap h => share_any _ cap xs s W hn h hok r h0 h1)
  have HRh : Hid (∀ W, SlotsAt W A xs → Calls Try.prog 22 #[.slice A xs.length cap0, .string s] W (SharePost r W)) := hide (fun W h => share2_any A cap0 xs s W hn h hok r h0 h1)
  have HIn : Hid (∀ W g, SlotsAt W (some ⟨g, 0, none⟩) (xs ++ List.replicate 80 ⟨sMark, 0, 0⟩) → SlotsAt W A xs → Calls Try.prog 23 #[.slice (some ⟨g, 0, none⟩) (xs.length + 80) (xs.length + 80), .slice A xs.length cap0, SlV ⟨sMark, 0, 0⟩] W (SlYesPost W)) := hide (fun W g h1 h2 => Slintact g A cap0 xs ⟨sMark, 0, 0⟩ W hn h1 h2)
  have HK := hide known_any
  have HR := hide hr
  clear hr hok h0 h1 hord hb hl
  generalize schedL xs o = sc at *
  generalize budL s xs = bu at *
  go_enter Try.func5, Try.ntmps5
  go_wp2_with fail
  refine HRo.out.mono ?_
  rintro e w1 ⟨g, rfl, hg, hf, hb⟩
  have HB1 := hide hb
  have HF1 := hide hf
  have HR1 := hide (HR.out.below hb)
  clear hb hf hg
  go_wp2_with fail
  refine (HSc.out w1 g _ (Slpre HF1.out)).mono ?_
  rintro e w2 ⟨rfl, hb⟩
  have HB2 := hide (HB1.out.trans (hb.mono HB1.out.size))
  have HF2 := hide (HF1.out.below hb)
  have HR2 := hide (HR1.out.below hb)
  clear hb
  go_wp2_with fail
  refine (HRs.out w2 HR2.out).mono ?_
  rintro e w3 ⟨rfl, hb⟩
  have HB3 := hide (HB2.out.trans (hb.mono HB2.out.size))
  have HF3 := hide (HF2.out.below hb)
  have HR3 := hide (HR2.out.below hb)
  clear hb
  go_wp2_with fail
  refine (HBu.out w3 g _ (Slpre HF3.out)).mono ?_
  rintro e w4 ⟨rfl, hb⟩
  have HB4 := hide (HB3.out.trans (hb.mono HB3.out.size))
  have HF4 := hide (HF3.out.below hb)
  have HR4 := hide (HR3.out.below hb)
  clear hb
  go_wp2_with fail
  refine (HRb.out w4 HR4.out).mono ?_
  rintro e w5 ⟨rfl, hb⟩
  have HB5 := hide (HB4.out.trans (hb.mono HB4.out.size))
  have HF5 := hide (HF4.out.below hb)
  have HR5 := hide (HR4.out.below hb)
  clear hb
  go_wp2_with fail
  refine (HSh.out w5 g _ (Slpre HF5.out)).mono ?_
  rintro e w6 ⟨rfl, hb⟩
  have HB6 := hide (HB5.out.trans (hb.mono HB5.out.size))
  have HF6 := hide (HF5.out.below hb)
  have HR6 := hide (HR5.out.below hb)
  clear hb
  go_wp2_with fail
  refine (HRh.out w6 HR6.out).mono ?_
  rintro e w7 ⟨rfl, hb⟩
  have HB7 := hide (HB6.out.trans (hb.mono HB6.out.size))
  have HF7 := hide (HF6.out.below hb)
  have HR7 := hide (HR6.out.below hb)
  clear hb
  go_wp2_with fail
  refine (HIn.out w7 g HF7.out HR7.out).mono ?_
  rintro e w8 ⟨rfl, hb⟩
  have HB8 := hide (HB7.out.trans (hb.mono HB7.out.size))
  clear hb
  go_wp2_with fail
  refine (HK.out w8).mono ?_
  rintro e w9 ⟨rfl, hb⟩
  have HB9 := hide (HB8.out.trans (hb.mono HB8.out.size))
  clear hb
  go_wp2_with fail
  go_ret
  exact ⟨rfl, HB9.out⟩
end LA
end Go.Proofs.Ytenfikfgliljmaa
