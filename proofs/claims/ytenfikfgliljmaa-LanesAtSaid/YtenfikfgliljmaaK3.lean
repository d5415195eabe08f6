/- bulkheadlaw9.LanesAt returns true. -/
import Derived.Test.YtenfikfgliljmaaK2
import Derived.Test.YtenfikfgliljmaaISt
import Derived.Test.YtenfikfgliljmaaD5
namespace Go.Proofs.Ytenfikfgliljmaa
open Go.RowKit
namespace LA
set_option maxHeartbeats 800000 in
set_option maxRecDepth 100000 in
theorem lanesAt_any (A : Option Addr) (cap0 : Nat) (xs : List Stint) (M o : Int) (w : World) (hn : xs.length ≤ 8796093022208) (hM0 : -9223372036854775808 ≤ M) (hM1 : M ≤ 9223372036854775807) (ho0 : -9223372036854775808 ≤ o) (ho1 : o ≤ 9223372036854775807) (hr : StintsAt w A xs) (hok : StintsOk xs) :
    Calls Try.prog 6 #[.slice A xs.length cap0, .int .i64 M, .int .i64 o] w (TruePost w) := by
  have HRo := hide (Stroomy A cap0 xs ⟨0, -9⟩ w hn hr)
  have HAt : Hid (∀ W g cap, StintsAt W (some ⟨g, 0, none⟩) xs → Calls Try.prog 25 #[.slice (some ⟨g, 0, none⟩) xs.length cap, .int .i64 M, .int .i64 o] W (AtPost xs M o W)) := hide (fun W g cap h => at_any _ cap xs M o W hn hM0 hM1 ho0 ho1 h hok)
  have HRe : Hid (∀ W, StintsAt W A xs → Calls Try.prog 26 #[.slice A xs.length cap0, .int .i64 M, .int .i64 o] W (AtPost xs M o W)) := hide (fun W h => refAt_any A cap0 xs M o W hn hM1 h hok)
  have HIn : Hid (∀ W g, StintsAt W (some ⟨g, 0, none⟩) (xs ++ List.replicate 80 ⟨0, -9⟩) → StintsAt W A xs → Calls Try.prog 27 #[.slice (some ⟨g, 0, none⟩) (xs.length + 80) (xs.length + 80), .slice A xs.length cap0, StV ⟨0, -9⟩] W (StYesPost W)) := hide (fun W g h1 h2 => Stintact g A cap0 xs ⟨0, -9⟩ W hn h1 h2)
  have HK := hide known_any
  have HR := hide hr
  clear hr hok
  go_enter Try.func6, Try.ntmps6
  go_wp2_with fail
  refine HRo.out.mono ?_
  rintro e w1 ⟨g, rfl, hg, hf, hb⟩
  have HB1 := hide hb
  have HF1 := hide hf
  have HR1 := hide (HR.out.below hb)
  clear hb hf hg
  go_wp2_with fail
  refine (HAt.out w1 g _ (Stpre HF1.out)).mono ?_
  rintro e w2 ⟨rfl, hb⟩
  have HB2 := hide (HB1.out.trans (hb.mono HB1.out.size))
  have HF2 := hide (HF1.out.below hb)
  have HR2 := hide (HR1.out.below hb)
  clear hb
  go_wp2_with fail
  refine (HRe.out w2 HR2.out).mono ?_
  rintro e w3 ⟨rfl, hb⟩
  have HB3 := hide (HB2.out.trans (hb.mono HB2.out.size))
  have HF3 := hide (HF2.out.below hb)
  have HR3 := hide (HR2.out.below hb)
  clear hb
  go_wp2_with fail
  refine (HIn.out w3 g HF3.out HR3.out).mono ?_
  rintro e w4 ⟨rfl, hb⟩
  have HB4 := hide (HB3.out.trans (hb.mono HB3.out.size))
  clear hb
  go_wp2_with fail
  refine (HK.out w4).mono ?_
  rintro e w5 ⟨rfl, hb⟩
  have HB5 := hide (HB4.out.trans (hb.mono HB4.out.size))
  clear hb
  go_wp2_with fail
  go_ret
  exact ⟨rfl, HB5.out⟩
end LA
end Go.Proofs.Ytenfikfgliljmaa
