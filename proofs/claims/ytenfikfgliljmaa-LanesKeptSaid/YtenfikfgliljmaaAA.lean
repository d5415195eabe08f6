/- Walks of package heap over jobs: Less, Swap, up. -/
import Derived.Test.YtenfikfgliljmaaProg
import Derived.WalkKit
import Derived.KernelRfl
import Derived.RowKit3
import Derived.Deep.QuietTactic
import Derived.BigQuiet
import Derived.RegionTactic
import Derived.BigRegion
import Derived.ChangeAlike
import Derived.Outline
import Derived.WalkSpells
import Derived.IntWalk
import Derived.Test.YtenfikfgliljmaaMA
import Derived.Deep.RegionWith
import Derived.Deep.RegionLaw
import Derived.Deep.LoopGhost
namespace Go.Proofs.Ytenfikfgliljmaa
open Go.RowKit
namespace LA

/-- Less of two jobs: due first, then the need's number. -/
def lessB (d1 n1 d2 n2 : Int) : Bool := decide (d1 < d2) || (decide (d1 = d2) && decide (n1 < n2))

set_option maxHeartbeats 400000 in
theorem less_any (b n cap : Nat) (i j : Int) (d1 n1 d2 n2 : Int) (w : World) (hi0 : 0 ≤ i) (hi1 : i < n) (hj0 : 0 ≤ j) (hj1 : j < n)
    (hi : w.cell? ⟨b, i.toNat * 3, none⟩ = some (.int .i64 n1)) (hdi : w.cell? ⟨b, i.toNat * 3 + 1, none⟩ = some (.int .i64 d1))
    (hj : w.cell? ⟨b, j.toNat * 3, none⟩ = some (.int .i64 n2)) (hjd : w.cell? ⟨b, j.toNat * 3 + 1, none⟩ = some (.int .i64 d2)) :
    Calls Try.prog 78 #[.slice (some ⟨b, 0, none⟩) n cap, .int .i64 i, .int .i64 j] w fun e w' =>
      e = .returned (.bool (lessB d1 n1 d2 n2)) ∧ ∃ k, w' = w.drewN k := by
  by_cases h1 : d1 < d2
  · have k1 : decide (d1 < d2) = true := by simpa using h1
    have hf : lessB d1 n1 d2 n2 = true := by simp [lessB, h1]
    have Hf := hide hf; clear hf
    go_enter Try.func78, Try.ntmps78
    go_wp2
    go_quiet (fail)
    go_wp2
    go_ret
    exact ⟨by rw [Hf.out]; rfl, _, rfl⟩
  · have k1 : decide (d1 < d2) = false := by simpa using h1
    by_cases h2 : d1 = d2
    · subst h2
      by_cases h3 : n1 < n2
      · have k3 : decide (n1 < n2) = true := by simpa using h3
        have hf : lessB d1 n1 d1 n2 = true := by simp [lessB, h3]
        have Hf := hide hf; clear hf
        go_enter Try.func78, Try.ntmps78
        go_wp2
        go_quiet (fail)
        go_wp2
        go_ret
        exact ⟨by rw [Hf.out]; rfl, _, rfl⟩
      · have k3 : decide (n1 < n2) = false := by simpa using h3
        have hf : lessB d1 n1 d1 n2 = false := by simp [lessB, h3]
        have Hf := hide hf; clear hf
        go_enter Try.func78, Try.ntmps78
        go_wp2
        go_quiet (fail)
        go_wp2
        go_ret
        exact ⟨by rw [Hf.out]; rfl, _, rfl⟩
    · have k2 : (d1 == d2) = false := by simpa using h2
      have hf : lessB d1 n1 d2 n2 = false := by simp [lessB, h1, h2]
      have Hf := hide hf; clear hf
      go_enter Try.func78, Try.ntmps78
      go_wp2
      go_quiet (fail)
      go_wp2
      go_ret
      exact ⟨by rw [Hf.out]; rfl, _, rfl⟩

set_option maxHeartbeats 400000 in
theorem swap_core (g n cap : Nat) (i j : Int) (cur : Array Value) (x0 x1 x2 y0 y1 y2 : Value) (w : World) (hi0 : 0 ≤ i) (hi1 : i < n) (hj0 : 0 ≤ j) (hj1 : j < n) (hn : n * 3 ≤ cur.size)
    (hg : Row w g 96 cur) (o0 : x0.oneCell' = true) (o1 : x1.oneCell' = true) (o2 : x2.oneCell' = true) (p0 : y0.oneCell' = true) (p1 : y1.oneCell' = true) (p2 : y2.oneCell' = true)
    (ci0 : cur[i.toNat * 3]? = some x0) (ci1 : cur[i.toNat * 3 + 1]? = some x1) (ci2 : cur[i.toNat * 3 + 2]? = some x2)
    (cj0 : cur[j.toNat * 3]? = some y0) (cj1 : cur[j.toNat * 3 + 1]? = some y1) (cj2 : cur[j.toNat * 3 + 2]? = some y2) :
    Calls Try.prog 81 #[.slice (some ⟨g, 0, none⟩) n cap, .int .i64 i, .int .i64 j] w fun e w' =>
      e = .returned (.tuple #[]) ∧ Row w' g 96 ((((((cur.setIfInBounds (i.toNat * 3) y0).setIfInBounds (i.toNat * 3 + 1) y1).setIfInBounds (i.toNat * 3 + 2) y2).setIfInBounds (j.toNat * 3) x0).setIfInBounds (j.toNat * 3 + 1) x1).setIfInBounds (j.toNat * 3 + 2) x2) ∧ Upd (· = g) w w' := by
  have bi : i.toNat * 3 + 2 < cur.size := by omega
  have bj : j.toNat * 3 + 2 < cur.size := by omega
  obtain ⟨w1, s1, r1, u1⟩ := hg.drew.store Try.prog (o := i.toNat * 3) (by omega) p0
  obtain ⟨w2, s2, r2, u2⟩ := r1.store Try.prog (o := i.toNat * 3 + 1) (by simp; omega) p1
  obtain ⟨w3, s3, r3, u3⟩ := r2.store Try.prog (o := i.toNat * 3 + 2) (by simp; omega) p2
  obtain ⟨w4, s4, r4, u4⟩ := r3.store Try.prog (o := j.toNat * 3) (by simp; omega) o0
  obtain ⟨w5, s5, r5, u5⟩ := r4.store Try.prog (o := j.toNat * 3 + 1) (by simp; omega) o1
  obtain ⟨w6, s6, r6, u6⟩ := r5.store Try.prog (o := j.toNat * 3 + 2) (by simp; omega) o2
  have R := hide r6
  have U : Hid (Upd (· = g) w w6) :=
    ((((((Upd.drew w).trans u1 (fun b h => .inl h)).trans u2 (fun b h => .inl h)).trans u3 (fun b h => .inl h)).trans u4 (fun b h => .inl h)).trans u5 (fun b h => .inl h)).trans u6 (fun b h => .inl h)
  replace ci0 := hg.drew.cell ci0
  replace ci1 := hg.drew.cell ci1
  replace ci2 := hg.drew.cell ci2
  replace cj0 := hg.drew.cell cj0
  replace cj1 := hg.drew.cell cj1
  replace cj2 := hg.drew.cell cj2
  clear r1 r2 r3 r4 r5 r6 u1 u2 u3 u4 u5 u6 hg hn bi bj o0 o1 o2 p0 p1 p2
  go_enter Try.func81, Try.ntmps81
  go_wp2
  go_region
  all_goals (go_end0; exact ⟨rfl, R.out, U.out⟩)

theorem swap_any (g n cap : Nat) (i j : Int) (cur : Array Value) (js : List Job) (w : World) (hi0 : 0 ≤ i) (hi1 : i < n) (hj0 : 0 ≤ j) (hj1 : j < n) (hn : n = js.length)
    (hg : Row w g 96 cur) (hc : JC cur js) :
    Calls Try.prog 81 #[.slice (some ⟨g, 0, none⟩) n cap, .int .i64 i, .int .i64 j] w fun e w' =>
      e = .returned (.tuple #[]) ∧ ∃ cur', cur'.size = cur.size ∧ Row w' g 96 cur' ∧ JC cur' (swapL js i.toNat j.toNat) ∧ Upd (· = g) w w' := by
  have hn' : n * 3 ≤ cur.size := by rw [hn]; exact hc.1
  have ii : i.toNat < js.length := by omega
  have jj : j.toNat < js.length := by omega
  obtain ⟨ci0, ci1, ci2⟩ := hc.2 i.toNat ii
  obtain ⟨cj0, cj1, cj2⟩ := hc.2 j.toNat jj
  refine (swap_core g n cap i j cur _ _ _ _ _ _ w hi0 hi1 hj0 hj1 hn' hg rfl rfl rfl rfl rfl rfl ci0 ci1 ci2 cj0 cj1 cj2).mono ?_
  rintro e w' ⟨rfl, r, u⟩
  exact ⟨rfl, _, by simp, r, JC_swap hc i.toNat j.toNat ii jj, u⟩

def lessJ (x y : Job) : Bool := lessB x.due x.need y.due y.need

theorem lessj_any (g n cap : Nat) (i j : Int) (cur : Array Value) (js : List Job) (w : World) (hi0 : 0 ≤ i) (hi1 : i < n) (hj0 : 0 ≤ j) (hj1 : j < n) (hn : n = js.length)
    (hg : Row w g 96 cur) (hc : JC cur js) :
    Calls Try.prog 78 #[.slice (some ⟨g, 0, none⟩) n cap, .int .i64 i, .int .i64 j] w fun e w' =>
      e = .returned (.bool (lessJ (js.getD i.toNat .zero) (js.getD j.toNat .zero))) ∧ ∃ k, w' = w.drewN k := by
  have ii : i.toNat < js.length := by omega
  have jj : j.toNat < js.length := by omega
  obtain ⟨ci0, ci1, ci2⟩ := hc.2 i.toNat ii
  obtain ⟨cj0, cj1, cj2⟩ := hc.2 j.toNat jj
  have e1 : js.getD i.toNat .zero = js[i.toNat] := by simp [List.getD, ii]
  have e2 : js.getD j.toNat .zero = js[j.toNat] := by simp [List.getD, jj]
  rw [e1, e2]
  exact less_any g n cap i j _ _ _ _ w hi0 hi1 hj0 hj1 (hg.cell ci0) (hg.cell ci1) (hg.cell cj0) (hg.cell cj1)
end LA
end Go.Proofs.Ytenfikfgliljmaa
namespace Go.Proofs.Ytenfikfgliljmaa
open Go.RowKit
namespace LA
theorem m_less0 (p : Nat) (w : World) : (method 225 91 (.pointer (some ⟨p, 0, none⟩)) "Less").run Try.prog w =
    (loadVar 93 ⟨p, 0, none⟩ >>= fun v => pure (78, v)).run Try.prog w := by kernel_rfl
theorem m_swap0 (p : Nat) (w : World) : (method 225 91 (.pointer (some ⟨p, 0, none⟩)) "Swap").run Try.prog w =
    (loadVar 93 ⟨p, 0, none⟩ >>= fun v => pure (81, v)).run Try.prog w := by kernel_rfl
theorem m_len0 (p : Nat) (w : World) : (method 225 91 (.pointer (some ⟨p, 0, none⟩)) "Len").run Try.prog w =
    (loadVar 93 ⟨p, 0, none⟩ >>= fun v => pure (55, v)).run Try.prog w := by kernel_rfl
theorem m_push (p : Nat) (w : World) : (method 225 91 (.pointer (some ⟨p, 0, none⟩)) "Push").run Try.prog w = .ok (80, .pointer (some ⟨p, 0, none⟩)) w := by kernel_rfl
theorem m_pop (p : Nat) (w : World) : (method 225 91 (.pointer (some ⟨p, 0, none⟩)) "Pop").run Try.prog w = .ok (79, .pointer (some ⟨p, 0, none⟩)) w := by kernel_rfl
theorem load93 (p : Nat) (w : World) (g : Option Addr) (n c : Nat) (h : w.cell? ⟨p, 0, none⟩ = some (.slice g n c)) : (loadVar 93 ⟨p, 0, none⟩).run Try.prog w = .ok (.slice g n c) w := by
  go_simp
theorem m_less (p : Nat) (w : World) (g : Option Addr) (n c : Nat) (h : w.cell? ⟨p, 0, none⟩ = some (.slice g n c)) :
    (method 225 91 (.pointer (some ⟨p, 0, none⟩)) "Less").run Try.prog w = .ok (78, .slice g n c) w := by rw [m_less0, Sem.run_bind, load93 p w g n c h]; rfl
theorem m_swap (p : Nat) (w : World) (g : Option Addr) (n c : Nat) (h : w.cell? ⟨p, 0, none⟩ = some (.slice g n c)) :
    (method 225 91 (.pointer (some ⟨p, 0, none⟩)) "Swap").run Try.prog w = .ok (81, .slice g n c) w := by rw [m_swap0, Sem.run_bind, load93 p w g n c h]; rfl
theorem m_len (p : Nat) (w : World) (g : Option Addr) (n c : Nat) (h : w.cell? ⟨p, 0, none⟩ = some (.slice g n c)) :
    (method 225 91 (.pointer (some ⟨p, 0, none⟩)) "Len").run Try.prog w = .ok (55, .slice g n c) w := by rw [m_len0, Sem.run_bind, load93 p w g n c h]; rfl
end LA
end Go.Proofs.Ytenfikfgliljmaa
namespace Go.Proofs.Ytenfikfgliljmaa
open Go.RowKit
namespace LA
/-- heap.up on a list. -/
def upL (l : List Job) (j : Nat) : List Job :=
  if j = 0 then l else if lessJ (l.getD j .zero) (l.getD ((j - 1) / 2) .zero) then upL (swapL l ((j - 1) / 2) j) ((j - 1) / 2) else l
termination_by j
decreasing_by omega

theorem upL_zero (l : List Job) : upL l 0 = l := by rw [upL]; simp
theorem upL_no (l : List Job) (j : Nat) (h : lessJ (l.getD j .zero) (l.getD ((j - 1) / 2) .zero) = false) : upL l j = l := by
  rw [upL, h]; simp
theorem upL_yes (l : List Job) (j : Nat) (h0 : j ≠ 0) (h : lessJ (l.getD j .zero) (l.getD ((j - 1) / 2) .zero) = true) : upL l j = upL (swapL l ((j - 1) / 2) j) ((j - 1) / 2) := by
  rw [upL, if_neg h0, if_pos h]

theorem JAt.cellp {w : World} {p g : Nat} {js : List Job} {cap : Nat} {cur : Array Value} (h : JAt w p g js cap cur) : w.cell? ⟨p, 0, none⟩ = some (.slice (some ⟨g, 0, none⟩) js.length cap) :=
  h.1.cell rfl

theorem JAt.upd {w w' : World} {p g : Nat} {js js' : List Job} {cap : Nat} {cur cur' : Array Value} {S : Nat → Prop} (h : JAt w p g js cap cur) (hu : Upd S w w') (hp : ¬ S p)
    (hs : cur'.size = cur.size) (hr : Row w' g 96 cur') (hc : JC cur' js') (hl : js'.length = js.length) : JAt w' p g js' cap cur' :=
  ⟨by rw [hl]; exact hu.row h.1 hp, hr, h.2.2.1, by rw [hl]; exact h.2.2.2.1, h.2.2.2.2.1, hs.trans h.2.2.2.2.2.1, hc⟩

set_option maxHeartbeats 800000 in
set_option maxRecDepth 100000 in
theorem up_any (p g : Nat) (js : List Job) (cap : Nat) (cur : Array Value) (j : Int) (w : World) (hj : 0 ≤ j) (hj2 : j < js.length) (HJ : JAt w p g js cap cur) :
    Calls Try.prog 59 #[.iface 91 (.pointer (some ⟨p, 0, none⟩)), .int .i64 j] w fun e w' =>
      e = .returned (.tuple #[]) ∧ ∃ cur', JAt w' p g (upL js j.toNat) cap cur' ∧ Upd (· = g) w w' := by
  have hlen : js.length ≤ 9223372036854775807 := by
    have h1 := HJ.2.2.2.1; have h2 := HJ.2.2.2.2.1; unfold maxLen at h2; omega
  have H0 := hide HJ
  clear HJ
  go_enter Try.func59, Try.ntmps59
  go_wp2_with fail
  go_loopw [1] (fun v wr => ∃ (k : Nat) (ks : List Job) (cu : Array Value), v = .int .i64 k ∧ (k : Int) < js.length ∧ Hid (ks.length = js.length) ∧ Hid (JAt wr p g ks cap cu) ∧ Hid (upL ks k = upL js j.toNat) ∧ Hid (Upd (· = g) w wr)) (fun v _ => (intOf v).toNat)
  case atStart =>
    obtain ⟨n, rfl⟩ := Int.eq_ofNat_of_zero_le hj
    exact ⟨n, js, cur, rfl, hj2, hide rfl, H0, hide rfl, hide (Upd.refl _ _)⟩
  case round =>
    obtain ⟨k, ks, cu, rfl, hk, HL, HJ, HE, HU⟩ := hrel
    by_cases h0 : k = 0
    · subst h0
      go_wp2_with fail
      go_end0
      have h1 := HE.out
      rw [upL_zero] at h1
      exact ⟨rfl, cu, h1 ▸ HJ.out, HU.out⟩
    · have h1 : 0 < k := by omega
      have hcell := HJ.out.cellp
      have hml := m_less p wr _ _ _ hcell
      have hle := lessj_any g ks.length cap (k : Int) (((k : Int) - 1) / 2) cu ks wr (by omega) (by rw [HL.out]; exact hk) (by omega) (by rw [HL.out]; omega) rfl HJ.out.2.1 HJ.out.2.2.2.2.2.2
      have e1 : ((k : Int)).toNat = k := rfl
      have e2 : (((k : Int) - 1) / 2).toNat = (k - 1) / 2 := by omega
      rw [e1, e2] at hle
      have HE1 := hide e1
      have HE2 := hide e2
      clear e1 e2
      cases hb : lessJ (ks.getD k .zero) (ks.getD ((k - 1) / 2) .zero) with
      | false =>
        rw [hb] at hle
        have Hle := hide hle
        have Hb := hide hb
        clear hle hb
        go_wp2_with fail
        refine Hle.out.mono ?_
        rintro e w1 ⟨rfl, n, rfl⟩
        go_wp2_with fail
        go_end0
        have h2 := HE.out
        rw [upL_no ks k Hb.out] at h2
        exact ⟨rfl, cu, h2 ▸ HJ.out, HU.out.trans (Upd.drewN wr n) (fun _ h => .inl h)⟩
      | true =>
        rw [hb] at hle
        have Hle := hide hle
        have Hb := hide hb
        clear hle hb
        go_wp2_with fail
        refine Hle.out.mono ?_
        rintro e w1 ⟨rfl, n, rfl⟩
        have hms := m_swap p (wr.drewN n) _ _ _ hcell
        have Hsw := hide (swap_any g ks.length cap (((k : Int) - 1) / 2) (k : Int) cu ks (wr.drewN n) (by omega) (by rw [HL.out]; omega) (by omega) (by rw [HL.out]; exact hk) rfl (HJ.out.2.1.drewN n) HJ.out.2.2.2.2.2.2)
        go_wp2_with fail
        refine Hsw.out.mono ?_
        rintro e w2 ⟨rfl, cu', hs, hr, hc, hu⟩
        have Hs := hide hs
        have Hr := hide hr
        have Hc := hide hc
        have Hu := hide hu
        clear hs hr hc hu
        go_wp2_with fail
        go_roundw
        case rel =>
          have hl' : Hid ((swapL ks ((k - 1) / 2) k).length = js.length) := hide (by rw [swapL_length]; exact HL.out)
          have hq : (((k : Int) - 1) / 2) = (((k - 1) / 2 : Nat) : Int) := by omega
          have hk' : (((k - 1) / 2 : Nat) : Int) < js.length := by omega
          refine ⟨(k - 1) / 2, swapL ks ((k - 1) / 2) k, cu', by rw [hq], hk', hl', hide ?_, hide ?_, hide ?_⟩
          · have hc2 := Hc.out
            rw [HE2.out, HE1.out] at hc2
            exact HJ.out.upd ((Upd.drewN (S := (· = g)) wr n).trans Hu.out (fun _ h => .inl h)) (fun e => HJ.out.2.2.1 e.symm) Hs.out Hr.out hc2 (swapL_length _ _ _)
          · rw [← upL_yes ks k h0 Hb.out]; exact HE.out
          · exact HU.out.trans ((Upd.drewN (S := (· = g)) wr n).trans Hu.out (fun _ h => .inl h)) (fun _ h => .inl h)
        case measure => simp [intOf]; omega
end LA
end Go.Proofs.Ytenfikfgliljmaa
