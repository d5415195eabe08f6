import Derived.Test.YtenfikfgliljmaaProg
import Derived.WalkKit
import Derived.KernelRfl
import Derived.RowKit3
import Derived.Deep.QuietTactic
import Derived.BigQuiet
import Derived.RegionTactic
import Derived.BigRegion
import Derived.ChangeAlike
import Derived.Outline
import Derived.WalkSpells
import Derived.IntWalk
import Derived.Test.YtenfikfgliljmaaJ
namespace Go.Proofs.Ytenfikfgliljmaa
open Go.RowKit
namespace LA

/-- Less of two jobs: due first, then the need's number. -/
def lessB (d1 n1 d2 n2 : Int) : Bool := decide (d1 < d2) || (decide (d1 = d2) && decide (n1 < n2))

set_option maxHeartbeats 400000 in
theorem less_any (b n cap : Nat) (i j : Int) (d1 n1 d2 n2 : Int) (w : World) (hi0 : 0 ≤ i) (hi1 : i < n) (hj0 : 0 ≤ j) (hj1 : j < n)
    (hi : w.cell? ⟨b, i.toNat * 3, none⟩ = some (.int .i64 n1)) (hdi : w.cell? ⟨b, i.toNat * 3 + 1, none⟩ = some (.int .i64 d1))
    (hj : w.cell? ⟨b, j.toNat * 3, none⟩ = some (.int .i64 n2)) (hjd : w.cell? ⟨b, j.toNat * 3 + 1, none⟩ = some (.int .i64 d2)) :
    Calls Try.prog 78 #[.slice (some ⟨b, 0, none⟩) n cap, .int .i64 i, .int .i64 j] w fun e w' =>
      e = .returned (.bool (lessB d1 n1 d2 n2)) ∧ ∃ k, w' = w.drewN k := by
  by_cases h1 : d1 < d2
  · have k1 : decide (d1 < d2) = true := by simpa using h1
    have hf : lessB d1 n1 d2 n2 = true := by simp [lessB, h1]
    have Hf := hide hf; clear hf
    go_enter Try.func78, Try.ntmps78
    go_wp2
    go_quiet (fail)
    go_wp2
    go_ret
    exact ⟨by rw [Hf.out]; rfl, _, rfl⟩
  · have k1 : decide (d1 < d2) = false := by simpa using h1
    by_cases h2 : d1 = d2
    · subst h2
      by_cases h3 : n1 < n2
      · have k3 : decide (n1 < n2) = true := by simpa using h3
        have hf : lessB d1 n1 d1 n2 = true := by simp [lessB, h3]
        have Hf := hide hf; clear hf
        go_enter Try.func78, Try.ntmps78
        go_wp2
        go_quiet (fail)
        go_wp2
        go_ret
        exact ⟨by rw [Hf.out]; rfl, _, rfl⟩
      · have k3 : decide (n1 < n2) = false := by simpa using h3
        have hf : lessB d1 n1 d1 n2 = false := by simp [lessB, h3]
        have Hf := hide hf; clear hf
        go_enter Try.func78, Try.ntmps78
        go_wp2
        go_quiet (fail)
        go_wp2
        go_ret
        exact ⟨by rw [Hf.out]; rfl, _, rfl⟩
    · have k2 : (d1 == d2) = false := by simpa using h2
      have hf : lessB d1 n1 d2 n2 = false := by simp [lessB, h1, h2]
      have Hf := hide hf; clear hf
      go_enter Try.func78, Try.ntmps78
      go_wp2
      go_quiet (fail)
      go_wp2
      go_ret
      exact ⟨by rw [Hf.out]; rfl, _, rfl⟩

set_option maxHeartbeats 400000 in
theorem swap_core (g n cap : Nat) (i j : Int) (cur : Array Value) (x0 x1 x2 y0 y1 y2 : Value) (w : World) (hi0 : 0 ≤ i) (hi1 : i < n) (hj0 : 0 ≤ j) (hj1 : j < n) (hn : n * 3 ≤ cur.size)
    (hg : Row w g 96 cur) (o0 : x0.oneCell' = true) (o1 : x1.oneCell' = true) (o2 : x2.oneCell' = true) (p0 : y0.oneCell' = true) (p1 : y1.oneCell' = true) (p2 : y2.oneCell' = true)
    (ci0 : cur[i.toNat * 3]? = some x0) (ci1 : cur[i.toNat * 3 + 1]? = some x1) (ci2 : cur[i.toNat * 3 + 2]? = some x2)
    (cj0 : cur[j.toNat * 3]? = some y0) (cj1 : cur[j.toNat * 3 + 1]? = some y1) (cj2 : cur[j.toNat * 3 + 2]? = some y2) :
    Calls Try.prog 81 #[.slice (some ⟨g, 0, none⟩) n cap, .int .i64 i, .int .i64 j] w fun e w' =>
      e = .returned (.tuple #[]) ∧ Row w' g 96 ((((((cur.setIfInBounds (i.toNat * 3) y0).setIfInBounds (i.toNat * 3 + 1) y1).setIfInBounds (i.toNat * 3 + 2) y2).setIfInBounds (j.toNat * 3) x0).setIfInBounds (j.toNat * 3 + 1) x1).setIfInBounds (j.toNat * 3 + 2) x2) ∧ Upd (· = g) w w' := by
  have bi : i.toNat * 3 + 2 < cur.size := by omega
  have bj : j.toNat * 3 + 2 < cur.size := by omega
  obtain ⟨w1, s1, r1, u1⟩ := hg.drew.store Try.prog (o := i.toNat * 3) (by omega) p0
  obtain ⟨w2, s2, r2, u2⟩ := r1.store Try.prog (o := i.toNat * 3 + 1) (by simp; omega) p1
  obtain ⟨w3, s3, r3, u3⟩ := r2.store Try.prog (o := i.toNat * 3 + 2) (by simp; omega) p2
  obtain ⟨w4, s4, r4, u4⟩ := r3.store Try.prog (o := j.toNat * 3) (by simp; omega) o0
  obtain ⟨w5, s5, r5, u5⟩ := r4.store Try.prog (o := j.toNat * 3 + 1) (by simp; omega) o1
  obtain ⟨w6, s6, r6, u6⟩ := r5.store Try.prog (o := j.toNat * 3 + 2) (by simp; omega) o2
  have R := hide r6
  have U : Hid (Upd (· = g) w w6) :=
    ((((((Upd.drew w).trans u1 (fun b h => .inl h)).trans u2 (fun b h => .inl h)).trans u3 (fun b h => .inl h)).trans u4 (fun b h => .inl h)).trans u5 (fun b h => .inl h)).trans u6 (fun b h => .inl h)
  replace ci0 := hg.drew.cell ci0
  replace ci1 := hg.drew.cell ci1
  replace ci2 := hg.drew.cell ci2
  replace cj0 := hg.drew.cell cj0
  replace cj1 := hg.drew.cell cj1
  replace cj2 := hg.drew.cell cj2
  clear r1 r2 r3 r4 r5 r6 u1 u2 u3 u4 u5 u6 hg hn bi bj o0 o1 o2 p0 p1 p2
  go_enter Try.func81, Try.ntmps81
  go_wp2
  go_region
  all_goals (go_end0; exact ⟨rfl, R.out, U.out⟩)

theorem swap_any (g n cap : Nat) (i j : Int) (cur : Array Value) (js : List Job) (w : World) (hi0 : 0 ≤ i) (hi1 : i < n) (hj0 : 0 ≤ j) (hj1 : j < n) (hn : n = js.length)
    (hg : Row w g 96 cur) (hc : JC cur js) :
    Calls Try.prog 81 #[.slice (some ⟨g, 0, none⟩) n cap, .int .i64 i, .int .i64 j] w fun e w' =>
      e = .returned (.tuple #[]) ∧ ∃ cur', cur'.size = cur.size ∧ Row w' g 96 cur' ∧ JC cur' (swapL js i.toNat j.toNat) ∧ Upd (· = g) w w' := by
  have hn' : n * 3 ≤ cur.size := by rw [hn]; exact hc.1
  have ii : i.toNat < js.length := by omega
  have jj : j.toNat < js.length := by omega
  obtain ⟨ci0, ci1, ci2⟩ := hc.2 i.toNat ii
  obtain ⟨cj0, cj1, cj2⟩ := hc.2 j.toNat jj
  refine (swap_core g n cap i j cur _ _ _ _ _ _ w hi0 hi1 hj0 hj1 hn' hg rfl rfl rfl rfl rfl rfl ci0 ci1 ci2 cj0 cj1 cj2).mono ?_
  rintro e w' ⟨rfl, r, u⟩
  exact ⟨rfl, _, by simp, r, JC_swap hc i.toNat j.toNat ii jj, u⟩

def lessJ (x y : Job) : Bool := lessB x.due x.need y.due y.need

theorem lessj_any (g n cap : Nat) (i j : Int) (cur : Array Value) (js : List Job) (w : World) (hi0 : 0 ≤ i) (hi1 : i < n) (hj0 : 0 ≤ j) (hj1 : j < n) (hn : n = js.length)
    (hg : Row w g 96 cur) (hc : JC cur js) :
    Calls Try.prog 78 #[.slice (some ⟨g, 0, none⟩) n cap, .int .i64 i, .int .i64 j] w fun e w' =>
      e = .returned (.bool (lessJ (js.getD i.toNat .zero) (js.getD j.toNat .zero))) ∧ ∃ k, w' = w.drewN k := by
  have ii : i.toNat < js.length := by omega
  have jj : j.toNat < js.length := by omega
  obtain ⟨ci0, ci1, ci2⟩ := hc.2 i.toNat ii
  obtain ⟨cj0, cj1, cj2⟩ := hc.2 j.toNat jj
  have e1 : js.getD i.toNat .zero = js[i.toNat] := by simp [List.getD, ii]
  have e2 : js.getD j.toNat .zero = js[j.toNat] := by simp [List.getD, jj]
  rw [e1, e2]
  exact less_any g n cap i j _ _ _ _ w hi0 hi1 hj0 hj1 (hg.cell ci0) (hg.cell ci1) (hg.cell cj0) (hg.cell cj1)
end LA
end Go.Proofs.Ytenfikfgliljmaa
