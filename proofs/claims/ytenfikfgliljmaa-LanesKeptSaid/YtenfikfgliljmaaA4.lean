import Derived.Test.YtenfikfgliljmaaAA
namespace Go.Proofs.Ytenfikfgliljmaa
open Go.RowKit
namespace LA
/-- heap.down on a list: the list, and where it stopped. -/
def downL (l : List Job) (i n : Nat) : List Job × Nat :=
  if n ≤ 2 * i + 1 then (l, i) else
    let j := if 2 * i + 2 < n ∧ lessJ (l.getD (2 * i + 2) .zero) (l.getD (2 * i + 1) .zero) = true then 2 * i + 2 else 2 * i + 1
    if lessJ (l.getD j .zero) (l.getD i .zero) then downL (swapL l i j) j n else (l, i)
termination_by n - i
decreasing_by split <;> omega

theorem downL_end (l : List Job) (i n : Nat) (h : n ≤ 2 * i + 1) : downL l i n = (l, i) := by rw [downL, if_pos h]
/-- The kid that is looked at. -/
def kid (l : List Job) (i n : Nat) : Nat := if 2 * i + 2 < n ∧ lessJ (l.getD (2 * i + 2) .zero) (l.getD (2 * i + 1) .zero) = true then 2 * i + 2 else 2 * i + 1
theorem downL_no (l : List Job) (i n : Nat) (h : ¬ n ≤ 2 * i + 1) (hk : lessJ (l.getD (kid l i n) .zero) (l.getD i .zero) = false) : downL l i n = (l, i) := by
  rw [downL, if_neg h]; unfold kid at hk; simp only [hk]; rfl
theorem downL_yes (l : List Job) (i n : Nat) (h : ¬ n ≤ 2 * i + 1) (hk : lessJ (l.getD (kid l i n) .zero) (l.getD i .zero) = true) : downL l i n = downL (swapL l i (kid l i n)) (kid l i n) n := by
  rw [downL, if_neg h]; unfold kid at hk ⊢; simp only [hk]; rfl
theorem kid2 (l : List Job) (i n : Nat) (h : 2 * i + 2 < n) (hl : lessJ (l.getD (2 * i + 2) .zero) (l.getD (2 * i + 1) .zero) = true) : kid l i n = 2 * i + 2 := by unfold kid; rw [if_pos ⟨h, hl⟩]
theorem kid1 (l : List Job) (i n : Nat) (hl : lessJ (l.getD (2 * i + 2) .zero) (l.getD (2 * i + 1) .zero) = false) : kid l i n = 2 * i + 1 := by unfold kid; rw [if_neg (by rintro ⟨_, h⟩; rw [hl] at h; cases h)]
theorem kid0 (l : List Job) (i n : Nat) (h : ¬ 2 * i + 2 < n) : kid l i n = 2 * i + 1 := by unfold kid; rw [if_neg (by simp [h])]

/-- What down leaves. -/
def DownPost (p g : Nat) (js : List Job) (cap i m : Nat) (w : World) (e : Ending) (w' : World) : Prop :=
  e = .returned (.bool (decide (i < (downL js i m).2))) ∧ ∃ cur', JAt w' p g (downL js i m).1 cap cur' ∧ Upd (· = g) w w'
theorem DownPost.mk {p g : Nat} {js : List Job} {cap i m : Nat} {w : World} {e : Ending} {w' : World} {r : List Job × Nat} (hr : downL js i m = r) {cur' : Array Value}
    (he : e = .returned (.bool (decide (i < r.2)))) (hj : JAt w' p g r.1 cap cur') (hu : Upd (· = g) w w') : DownPost p g js cap i m w e w' := by
  subst hr; exact ⟨he, cur', hj, hu⟩

set_option maxHeartbeats 3000000 in
set_option maxRecDepth 100000 in
theorem down_any (p g : Nat) (js : List Job) (cap : Nat) (cur : Array Value) (i n : Int) (w : World) (hi : 0 ≤ i) (hi2 : i ≤ n) (hn : n ≤ js.length) (hlen : js.length ≤ 1099511627776) (HJ : JAt w p g js cap cur) :
    Calls Try.prog 60 #[.iface 91 (.pointer (some ⟨p, 0, none⟩)), .int .i64 i, .int .i64 n] w (DownPost p g js cap i.toNat n.toNat w) := by
  have H0 := hide HJ
  clear HJ
  obtain ⟨i0, rfl⟩ := Int.eq_ofNat_of_zero_le hi
  obtain ⟨m, rfl⟩ := Int.eq_ofNat_of_zero_le (show 0 ≤ n by omega)
  rw [Int.toNat_natCast, Int.toNat_natCast]
  go_enter Try.func60, Try.ntmps60
  go_wp2_with fail
  go_loopw [7] (fun v wr => ∃ (k : Nat) (ks : List Job) (cu : Array Value), v = .int .i64 k ∧ (k : Int) ≤ m ∧ Hid (ks.length = js.length) ∧ Hid (JAt wr p g ks cap cu) ∧ Hid (downL ks k m = downL js i0 m) ∧ Hid (Upd (· = g) w wr)) (fun v _ => m - (intOf v).toNat)
  case atStart => exact ⟨i0, js, cur, rfl, hi2, hide rfl, H0, hide rfl, hide (Upd.refl _ _)⟩
  case round =>
    obtain ⟨k, ks, cu, rfl, hk, HL, HJ, HE, HU⟩ := hrel
    by_cases h0 : m ≤ 2 * k + 1
    · go_wp2_with fail
      go_ret
      have h1 := HE.out
      rw [downL_end ks k m h0] at h1
      exact DownPost.mk h1.symm rfl HJ.out HU.out
    · have hcell := HJ.out.cellp
      have hle : Hid (∀ (a b : Int) (W : World), Row W g 96 cu → 0 ≤ a → a < js.length → 0 ≤ b → b < js.length → Calls Try.prog 78 #[.slice (some ⟨g, 0, none⟩) ks.length cap, .int .i64 a, .int .i64 b] W fun e w' =>
          e = .returned (.bool (lessJ (ks.getD a.toNat .zero) (ks.getD b.toNat .zero))) ∧ ∃ k, w' = W.drewN k) := hide (fun a b W hR h1 h2 h3 h4 => lessj_any g ks.length cap a b cu ks W h1 (by rw [HL.out]; exact h2) h3 (by rw [HL.out]; exact h4) rfl hR HJ.out.2.2.2.2.2.2)
      have hsw : Hid (∀ (a b : Int) (W : World), Row W g 96 cu → 0 ≤ a → a < js.length → 0 ≤ b → b < js.length → Calls Try.prog 81 #[.slice (some ⟨g, 0, none⟩) ks.length cap, .int .i64 a, .int .i64 b] W fun e w' =>
          e = .returned (.tuple #[]) ∧ ∃ cur', cur'.size = cu.size ∧ Row w' g 96 cur' ∧ JC cur' (swapL ks a.toNat b.toNat) ∧ Upd (· = g) W w') := hide (fun a b W hR h1 h2 h3 h4 => swap_any g ks.length cap a b cu ks W h1 (by rw [HL.out]; exact h2) h3 (by rw [HL.out]; exact h4) rfl hR HJ.out.2.2.2.2.2.2)
      have hml := m_less p wr _ _ _ hcell
      by_cases h2 : 2 * k + 2 < m
      · cases hb1 : lessJ (ks.getD (2 * k + 2) .zero) (ks.getD (2 * k + 1) .zero) with
        | true =>
          have Hb1 := hide hb1
          clear hb1
          go_wp2_with fail
          refine (hle.out _ _ wr HJ.out.2.1 (by omega) (by omega) (by omega) (by omega)).mono ?_
          rintro e w1 ⟨he, n1, rfl⟩
          rw [show (2 * (k : Int) + 1 + 1).toNat = 2 * k + 2 by omega, show (2 * (k : Int) + 1).toNat = 2 * k + 1 by omega, Hb1.out] at he
          subst he
          have Hk : Hid (kid ks k m = 2 * k + 2) := hide (kid2 ks k m h2 Hb1.out)
          have hml2 := m_less p (wr.drewN n1) _ _ _ hcell
          cases hb2 : lessJ (ks.getD (2 * k + 2) .zero) (ks.getD k .zero) with
          | false =>
            have Hb2 := hide hb2
            clear hb2
            go_wp2_with fail
            refine (hle.out _ _ (wr.drewN n1) (HJ.out.2.1.drewN n1) (by omega) (by omega) (by omega) (by omega)).mono ?_
            rintro e w1 ⟨he, n2, rfl⟩
            rw [show (2 * (k : Int) + 1 + 1 : Int).toNat = 2 * k + 2 by omega, Int.toNat_natCast, Hb2.out] at he
            subst he
            go_wp2_with fail
            go_ret
            have h1 := HE.out
            rw [downL_no ks k m h0 (by rw [Hk.out]; exact Hb2.out)] at h1
            exact DownPost.mk h1.symm rfl HJ.out (HU.out.trans ((Upd.drewN (S := (· = g)) wr (n1 + n2))) (fun _ h => .inl h))
          | true =>
            have Hb2 := hide hb2
            clear hb2
            go_wp2_with fail
            refine (hle.out _ _ (wr.drewN n1) (HJ.out.2.1.drewN n1) (by omega) (by omega) (by omega) (by omega)).mono ?_
            rintro e w1 ⟨he, n2, rfl⟩
            rw [show (2 * (k : Int) + 1 + 1 : Int).toNat = 2 * k + 2 by omega, Int.toNat_natCast, Hb2.out] at he
            subst he
            have hms := m_swap p (wr.drewN (n1 + n2)) _ _ _ hcell
            go_wp2_with fail
            refine (hsw.out _ _ (wr.drewN (n1 + n2)) (HJ.out.2.1.drewN (n1 + n2)) (by omega) (by omega) (by omega) (by omega)).mono ?_
            rintro e w2 ⟨rfl, cu', hs, hr, hc, hu⟩
            rw [show (2 * (k : Int) + 1 + 1 : Int).toNat = 2 * k + 2 by omega, Int.toNat_natCast] at hc
            have Hs := hide hs
            have Hr := hide hr
            have Hc := hide hc
            have Hu := hide hu
            clear hs hr hc hu
            go_wp2_with fail
            go_roundw
            case rel =>
              have hU2 := ((Upd.drewN (S := (· = g)) wr (n1 + n2))).trans Hu.out (fun _ h => .inl h)
              have hl' : Hid ((swapL ks k (2 * k + 2)).length = js.length) := hide (by rw [swapL_length]; exact HL.out)
              refine ⟨2 * k + 2, swapL ks k (2 * k + 2), cu', by rw [show (2 * (k : Int) + 1 + 1 : Int) = ((2 * k + 2 : Nat) : Int) by omega], by omega, hl', hide ?_, hide ?_, hide (HU.out.trans hU2 (fun _ h => .inl h))⟩
              · exact HJ.out.upd hU2 (fun e => HJ.out.2.2.1 e.symm) Hs.out Hr.out Hc.out (swapL_length _ _ _)
              · rw [← HE.out, downL_yes ks k m h0 (by rw [Hk.out]; exact Hb2.out), Hk.out]
            case measure => simp [intOf]; omega
        | false =>
          have Hb1 := hide hb1
          clear hb1
          go_wp2_with fail
          refine (hle.out _ _ wr HJ.out.2.1 (by omega) (by omega) (by omega) (by omega)).mono ?_
          rintro e w1 ⟨he, n1, rfl⟩
          rw [show (2 * (k : Int) + 1 + 1).toNat = 2 * k + 2 by omega, show (2 * (k : Int) + 1).toNat = 2 * k + 1 by omega, Hb1.out] at he
          subst he
          have Hk : Hid (kid ks k m = 2 * k + 1) := hide (kid1 ks k m Hb1.out)
          have hml2 := m_less p (wr.drewN n1) _ _ _ hcell
          cases hb2 : lessJ (ks.getD (2 * k + 1) .zero) (ks.getD k .zero) with
          | false =>
            have Hb2 := hide hb2
            clear hb2
            go_wp2_with fail
            refine (hle.out _ _ (wr.drewN n1) (HJ.out.2.1.drewN n1) (by omega) (by omega) (by omega) (by omega)).mono ?_
            rintro e w1 ⟨he, n2, rfl⟩
            rw [show (2 * (k : Int) + 1 : Int).toNat = 2 * k + 1 by omega, Int.toNat_natCast, Hb2.out] at he
            subst he
            go_wp2_with fail
            go_ret
            have h1 := HE.out
            rw [downL_no ks k m h0 (by rw [Hk.out]; exact Hb2.out)] at h1
            exact DownPost.mk h1.symm rfl HJ.out (HU.out.trans ((Upd.drewN (S := (· = g)) wr (n1 + n2))) (fun _ h => .inl h))
          | true =>
            have Hb2 := hide hb2
            clear hb2
            go_wp2_with fail
            refine (hle.out _ _ (wr.drewN n1) (HJ.out.2.1.drewN n1) (by omega) (by omega) (by omega) (by omega)).mono ?_
            rintro e w1 ⟨he, n2, rfl⟩
            rw [show (2 * (k : Int) + 1 : Int).toNat = 2 * k + 1 by omega, Int.toNat_natCast, Hb2.out] at he
            subst he
            have hms := m_swap p (wr.drewN (n1 + n2)) _ _ _ hcell
            go_wp2_with fail
            refine (hsw.out _ _ (wr.drewN (n1 + n2)) (HJ.out.2.1.drewN (n1 + n2)) (by omega) (by omega) (by omega) (by omega)).mono ?_
            rintro e w2 ⟨rfl, cu', hs, hr, hc, hu⟩
            rw [show (2 * (k : Int) + 1 : Int).toNat = 2 * k + 1 by omega, Int.toNat_natCast] at hc
            have Hs := hide hs
            have Hr := hide hr
            have Hc := hide hc
            have Hu := hide hu
            clear hs hr hc hu
            go_wp2_with fail
            go_roundw
            case rel =>
              have hU2 := ((Upd.drewN (S := (· = g)) wr (n1 + n2))).trans Hu.out (fun _ h => .inl h)
              have hl' : Hid ((swapL ks k (2 * k + 1)).length = js.length) := hide (by rw [swapL_length]; exact HL.out)
              refine ⟨2 * k + 1, swapL ks k (2 * k + 1), cu', by rw [show (2 * (k : Int) + 1 : Int) = ((2 * k + 1 : Nat) : Int) by omega], by omega, hl', hide ?_, hide ?_, hide (HU.out.trans hU2 (fun _ h => .inl h))⟩
              · exact HJ.out.upd hU2 (fun e => HJ.out.2.2.1 e.symm) Hs.out Hr.out Hc.out (swapL_length _ _ _)
              · rw [← HE.out, downL_yes ks k m h0 (by rw [Hk.out]; exact Hb2.out), Hk.out]
            case measure => simp [intOf]; omega
      · have hc2 : Hid True := hide trivial
        have Hk : Hid (kid ks k m = 2 * k + 1) := hide (kid0 ks k m h2)
        cases hb2 : lessJ (ks.getD (2 * k + 1) .zero) (ks.getD k .zero) with
        | false =>
          have Hb2 := hide hb2
          clear hb2
          go_wp2_with fail
          refine (hle.out _ _ wr HJ.out.2.1 (by omega) (by omega) (by omega) (by omega)).mono ?_
          rintro e w1 ⟨he, n2, rfl⟩
          rw [show (2 * (k : Int) + 1 : Int).toNat = 2 * k + 1 by omega, Int.toNat_natCast, Hb2.out] at he
          subst he
          go_wp2_with fail
          go_ret
          have h1 := HE.out
          rw [downL_no ks k m h0 (by rw [Hk.out]; exact Hb2.out)] at h1
          exact DownPost.mk h1.symm rfl HJ.out (HU.out.trans (Upd.drewN (S := (· = g)) wr n2) (fun _ h => .inl h))
        | true =>
          have Hb2 := hide hb2
          clear hb2
          go_wp2_with fail
          refine (hle.out _ _ wr HJ.out.2.1 (by omega) (by omega) (by omega) (by omega)).mono ?_
          rintro e w1 ⟨he, n2, rfl⟩
          rw [show (2 * (k : Int) + 1 : Int).toNat = 2 * k + 1 by omega, Int.toNat_natCast, Hb2.out] at he
          subst he
          have hms := m_swap p (wr.drewN n2) _ _ _ hcell
          go_wp2_with fail
          refine (hsw.out _ _ (wr.drewN n2) (HJ.out.2.1.drewN n2) (by omega) (by omega) (by omega) (by omega)).mono ?_
          rintro e w2 ⟨rfl, cu', hs, hr, hc, hu⟩
          rw [show (2 * (k : Int) + 1 : Int).toNat = 2 * k + 1 by omega, Int.toNat_natCast] at hc
          have Hs := hide hs
          have Hr := hide hr
          have Hc := hide hc
          have Hu := hide hu
          clear hs hr hc hu
          go_wp2_with fail
          go_roundw
          case rel =>
            have hU2 := (Upd.drewN (S := (· = g)) wr n2).trans Hu.out (fun _ h => .inl h)
            have hl' : Hid ((swapL ks k (2 * k + 1)).length = js.length) := hide (by rw [swapL_length]; exact HL.out)
            refine ⟨2 * k + 1, swapL ks k (2 * k + 1), cu', by rw [show (2 * (k : Int) + 1 : Int) = ((2 * k + 1 : Nat) : Int) by omega], by omega, hl', hide ?_, hide ?_, hide (HU.out.trans hU2 (fun _ h => .inl h))⟩
            · exact HJ.out.upd hU2 (fun e => HJ.out.2.2.1 e.symm) Hs.out Hr.out Hc.out (swapL_length _ _ _)
            · rw [← HE.out, downL_yes ks k m h0 (by rw [Hk.out]; exact Hb2.out), Hk.out]
          case measure => simp [intOf]; omega
end LA
end Go.Proofs.Ytenfikfgliljmaa
