import Derived.Test.YtenfikfgliljmaaA2
namespace Go.Proofs.Ytenfikfgliljmaa
open Go.RowKit
namespace LA
/-- heap.up on a list. -/
def upL (l : List Job) (j : Nat) : List Job :=
  if j = 0 then l else if lessJ (l.getD j .zero) (l.getD ((j - 1) / 2) .zero) then upL (swapL l ((j - 1) / 2) j) ((j - 1) / 2) else l
termination_by j
decreasing_by omega

theorem upL_zero (l : List Job) : upL l 0 = l := by rw [upL]; simp
theorem upL_no (l : List Job) (j : Nat) (h : lessJ (l.getD j .zero) (l.getD ((j - 1) / 2) .zero) = false) : upL l j = l := by
  rw [upL, h]; simp
theorem upL_yes (l : List Job) (j : Nat) (h0 : j ≠ 0) (h : lessJ (l.getD j .zero) (l.getD ((j - 1) / 2) .zero) = true) : upL l j = upL (swapL l ((j - 1) / 2) j) ((j - 1) / 2) := by
  rw [upL, if_neg h0, if_pos h]

theorem JAt.cellp {w : World} {p g : Nat} {js : List Job} {cap : Nat} {cur : Array Value} (h : JAt w p g js cap cur) : w.cell? ⟨p, 0, none⟩ = some (.slice (some ⟨g, 0, none⟩) js.length cap) :=
  h.1.cell rfl

theorem JAt.upd {w w' : World} {p g : Nat} {js js' : List Job} {cap : Nat} {cur cur' : Array Value} {S : Nat → Prop} (h : JAt w p g js cap cur) (hu : Upd S w w') (hp : ¬ S p)
    (hs : cur'.size = cur.size) (hr : Row w' g 96 cur') (hc : JC cur' js') (hl : js'.length = js.length) : JAt w' p g js' cap cur' :=
  ⟨by rw [hl]; exact hu.row h.1 hp, hr, h.2.2.1, by rw [hl]; exact h.2.2.2.1, h.2.2.2.2.1, hs.trans h.2.2.2.2.2.1, hc⟩

set_option maxHeartbeats 800000 in
set_option maxRecDepth 100000 in
theorem up_any (p g : Nat) (js : List Job) (cap : Nat) (cur : Array Value) (j : Int) (w : World) (hj : 0 ≤ j) (hj2 : j < js.length) (HJ : JAt w p g js cap cur) :
    Calls Try.prog 59 #[.iface 91 (.pointer (some ⟨p, 0, none⟩)), .int .i64 j] w fun e w' =>
      e = .returned (.tuple #[]) ∧ ∃ cur', JAt w' p g (upL js j.toNat) cap cur' ∧ Upd (· = g) w w' := by
  have hlen : js.length ≤ 9223372036854775807 := by
    have h1 := HJ.2.2.2.1; have h2 := HJ.2.2.2.2.1; unfold maxLen at h2; omega
  have H0 := hide HJ
  clear HJ
  go_enter Try.func59, Try.ntmps59
  go_wp2_with fail
  go_loopw [1] (fun v wr => ∃ (k : Nat) (ks : List Job) (cu : Array Value), v = .int .i64 k ∧ (k : Int) < js.length ∧ Hid (ks.length = js.length) ∧ Hid (JAt wr p g ks cap cu) ∧ Hid (upL ks k = upL js j.toNat) ∧ Hid (Upd (· = g) w wr)) (fun v _ => (intOf v).toNat)
  case atStart =>
    obtain ⟨n, rfl⟩ := Int.eq_ofNat_of_zero_le hj
    exact ⟨n, js, cur, rfl, hj2, hide rfl, H0, hide rfl, hide (Upd.refl _ _)⟩
  case round =>
    obtain ⟨k, ks, cu, rfl, hk, HL, HJ, HE, HU⟩ := hrel
    by_cases h0 : k = 0
    · subst h0
      go_wp2_with fail
      go_end0
      have h1 := HE.out
      rw [upL_zero] at h1
      exact ⟨rfl, cu, h1 ▸ HJ.out, HU.out⟩
    · have h1 : 0 < k := by omega
      have hcell := HJ.out.cellp
      have hml := m_less p wr _ _ _ hcell
      have hle := lessj_any g ks.length cap (k : Int) (((k : Int) - 1) / 2) cu ks wr (by omega) (by rw [HL.out]; exact hk) (by omega) (by rw [HL.out]; omega) rfl HJ.out.2.1 HJ.out.2.2.2.2.2.2
      have e1 : ((k : Int)).toNat = k := rfl
      have e2 : (((k : Int) - 1) / 2).toNat = (k - 1) / 2 := by omega
      rw [e1, e2] at hle
      have HE1 := hide e1
      have HE2 := hide e2
      clear e1 e2
      cases hb : lessJ (ks.getD k .zero) (ks.getD ((k - 1) / 2) .zero) with
      | false =>
        rw [hb] at hle
        have Hle := hide hle
        have Hb := hide hb
        clear hle hb
        go_wp2_with fail
        refine Hle.out.mono ?_
        rintro e w1 ⟨rfl, n, rfl⟩
        go_wp2_with fail
        go_end0
        have h2 := HE.out
        rw [upL_no ks k Hb.out] at h2
        exact ⟨rfl, cu, h2 ▸ HJ.out, HU.out.trans (Upd.drewN wr n) (fun _ h => .inl h)⟩
      | true =>
        rw [hb] at hle
        have Hle := hide hle
        have Hb := hide hb
        clear hle hb
        go_wp2_with fail
        refine Hle.out.mono ?_
        rintro e w1 ⟨rfl, n, rfl⟩
        have hms := m_swap p (wr.drewN n) _ _ _ hcell
        have Hsw := hide (swap_any g ks.length cap (((k : Int) - 1) / 2) (k : Int) cu ks (wr.drewN n) (by omega) (by rw [HL.out]; omega) (by omega) (by rw [HL.out]; exact hk) rfl (HJ.out.2.1.drewN n) HJ.out.2.2.2.2.2.2)
        go_wp2_with fail
        refine Hsw.out.mono ?_
        rintro e w2 ⟨rfl, cu', hs, hr, hc, hu⟩
        have Hs := hide hs
        have Hr := hide hr
        have Hc := hide hc
        have Hu := hide hu
        clear hs hr hc hu
        go_wp2_with fail
        go_roundw
        case rel =>
          have hl' : Hid ((swapL ks ((k - 1) / 2) k).length = js.length) := hide (by rw [swapL_length]; exact HL.out)
          have hq : (((k : Int) - 1) / 2) = (((k - 1) / 2 : Nat) : Int) := by omega
          have hk' : (((k - 1) / 2 : Nat) : Int) < js.length := by omega
          refine ⟨(k - 1) / 2, swapL ks ((k - 1) / 2) k, cu', by rw [hq], hk', hl', hide ?_, hide ?_, hide ?_⟩
          · have hc2 := Hc.out
            rw [HE2.out, HE1.out] at hc2
            exact HJ.out.upd ((Upd.drewN (S := (· = g)) wr n).trans Hu.out (fun _ h => .inl h)) (fun e => HJ.out.2.2.1 e.symm) Hs.out Hr.out hc2 (swapL_length _ _ _)
          · rw [← upL_yes ks k h0 Hb.out]; exact HE.out
          · exact HU.out.trans ((Upd.drewN (S := (· = g)) wr n).trans Hu.out (fun _ h => .inl h)) (fun _ h => .inl h)
        case measure => simp [intOf]; omega
end LA
end Go.Proofs.Ytenfikfgliljmaa
