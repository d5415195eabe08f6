/- The reference's wrong, wants, Demand walked. -/
import Derived.Test.YtenfikfgliljmaaBB
import Derived.Test.YtenfikfgliljmaaD3
import Derived.StillTailTactics
import Derived.Deep.RegionWith
/- The reference's wrong and wants. -/
namespace Go.Proofs.Ytenfikfgliljmaa
open Go.RowKit
namespace LA
set_option maxHeartbeats 1600000 in
set_option maxRecDepth 100000 in
theorem refWrong_any (major : Int) (x : Need) (needs : Bool) (w : World) (hm0 : 0 ≤ major) (hm1 : major ≤ 65536) (hx : x.ok) :
    Calls Try.prog 50 #[.int .u64 major, .agg #[.int .i64 x.pos, .string x.subj, .int .u64 x.budget, .int .u64 x.period], .bool needs] w fun e w' =>
      e = .returned (.int .i64 (wrongC major x needs)) ∧ Below w.heap.size w w' := by
  obtain ⟨hb0, hb1, hp0, hp1⟩ := hx
  generalize hr : wrongC major x needs = r
  unfold wrongC at hr
  obtain ⟨pos, subj, budget, period⟩ := x
  simp only at hb0 hb1 hp0 hp1 hr ⊢
  have close : ∀ X, Below w.heap.size w (w.alloc X) := fun X => (Below.refl _ w).alloc (Nat.le_refl _) X
  have HC := hide close
  clear close
  by_cases h1 : budget = 0
  · subst h1
    simp only [true_or, if_true] at hr
    have Hr := hide hr; clear hr
    go_enter Try.func50, Try.ntmps50
    go_wp2
    go_ret
    exact ⟨by rw [← Hr.out]; rfl, HC.out _⟩
  · by_cases h2 : major < budget
    · rw [if_pos (.inr h2)] at hr
      have Hr := hide hr; clear hr
      have k1 : (budget == 0) = false := beq_eq_false_iff_ne.2 h1
      go_enter Try.func50, Try.ntmps50
      go_wp2
      go_ret
      exact ⟨by rw [← Hr.out]; rfl, HC.out _⟩
    · rw [if_neg (by omega)] at hr
      have k1 : (budget == 0) = false := beq_eq_false_iff_ne.2 h1
      have k2 : budget ≤ major := by omega
      cases needs with
      | false =>
        simp only [if_true] at hr
        have Hr := hide hr; clear hr
        go_enter Try.func50, Try.ntmps50
        go_wp2
        go_ret
        exact ⟨by rw [← Hr.out]; rfl, HC.out _⟩
      | true =>
        rw [if_neg (by simp)] at hr
        by_cases h3 : subj.toList = []
        · rw [if_pos h3] at hr
          have Hr := hide hr; clear hr
          go_enter Try.func50, Try.ntmps50
          go_wp2
          go_ret
          exact ⟨by rw [← Hr.out]; rfl, HC.out _⟩
        · rw [if_neg h3] at hr
          have k3 : subj.toList.isEmpty = false := by simpa using h3
          have H3 := hide h3
          clear h3
          by_cases h4 : period = 0
          · subst h4
            rw [if_pos (.inl rfl)] at hr
            have Hr := hide hr; clear hr
            go_enter Try.func50, Try.ntmps50
            go_wp2
            go_ret
            exact ⟨by rw [← Hr.out]; rfl, HC.out _⟩
          · have k4 : (period == 0) = false := beq_eq_false_iff_ne.2 h4
            have k5 : 0 < period := by omega
            by_cases h5 : major < period
            · rw [if_pos (.inr (.inl h5))] at hr
              have Hr := hide hr; clear hr
              go_enter Try.func50, Try.ntmps50
              go_wp2
              go_ret
              exact ⟨by rw [← Hr.out]; rfl, HC.out _⟩
            · by_cases h6 : major % period = 0
              · by_cases h7 : period < budget
                · rw [if_pos (.inr (.inr (.inr h7)))] at hr
                  have Hr := hide hr; clear hr
                  go_enter Try.func50, Try.ntmps50
                  go_wp2
                  go_ret
                  exact ⟨by rw [← Hr.out]; rfl, HC.out _⟩
                · rw [if_neg (by omega)] at hr
                  have Hr := hide hr; clear hr
                  go_enter Try.func50, Try.ntmps50
                  go_wp2
                  go_ret
                  exact ⟨by rw [← Hr.out]; rfl, HC.out _⟩
              · rw [if_pos (.inr (.inr (.inl h6)))] at hr
                have k6 : (major % period == 0) = false := beq_eq_false_iff_ne.2 h6
                have Hr := hide hr; clear hr
                go_enter Try.func50, Try.ntmps50
                go_wp2
                go_ret
                exact ⟨by rw [← Hr.out]; rfl, HC.out _⟩
set_option maxHeartbeats 1600000 in
set_option maxRecDepth 100000 in
theorem refWants_any (major : Int) (x : Need) (needs : Bool) (w : World) (hm0 : 0 ≤ major) (hm1 : major ≤ 65536) (hx : x.ok) (hr : RightIn major x needs) :
    Calls Try.prog 51 #[.int .u64 major, .agg #[.int .i64 x.pos, .string x.subj, .int .u64 x.budget, .int .u64 x.period], .bool needs] w fun e w' =>
      e = .returned (.int .u64 (wantsC major x needs)) ∧ Below w.heap.size w w' := by
  have hle := wants_le hm1 hr
  obtain ⟨hb0, hb1, hp0, hp1⟩ := hx
  have hb2 := hr.le
  have hper := hr.per
  generalize hq : wantsC major x needs = r at *
  unfold wantsC at hq
  obtain ⟨pos, subj, budget, period⟩ := x
  simp only at hb0 hb1 hp0 hp1 hq hb2 hper ⊢
  have close : ∀ X n, Below w.heap.size w ((w.alloc X).drewN n) := fun X n => (Upd.alloc (S := fun _ => False) w X).trans (Upd.drewN (S := fun _ => False) _ n) (fun _ h => .inl h) |>.below (fun _ h => h.elim) (Nat.le_refl _)
  have HC := hide close
  clear close hr
  cases needs with
  | false =>
    simp only [Bool.false_eq_true, if_false] at hq
    have Hr := hide hq; clear hq hper
    go_enter Try.func51, Try.ntmps51
    go_wp2
    go_ret
    exact ⟨by rw [← Hr.out]; rfl, HC.out _ 0⟩
  | true =>
    obtain ⟨-, h2, h3, -, -⟩ := hper rfl
    simp only [if_true] at hq
    have k1 : (period == 0) = false := beq_eq_false_iff_ne.2 (by omega)
    have d0 : 0 ≤ major / period := Int.ediv_nonneg hm0 (by omega)
    have d1 : major / period ≤ major := Int.ediv_le_self _ hm0
    have Hq := hide hq
    have m0 : 0 ≤ budget * (major / period) := Int.mul_nonneg hb0 d0
    have m1 : budget * (major / period) ≤ 4294967296 := by rw [hq]; exact hle
    have w1 : IntKind.u64.wrap (budget * (major / period)) = budget * (major / period) := by
      unfold IntKind.wrap; simp [IntKind.bits, IntKind.signed]; omega
    clear hq hle
    go_enter Try.func51, Try.ntmps51
    go_wp2
    go_quiet (fail)
    go_wp2
    go_ret
    refine ⟨?_, HC.out _ _⟩
    rw [← Hq.out]
    rfl
end LA
end Go.Proofs.Ytenfikfgliljmaa
/- The reference's Demand. -/
namespace Go.Proofs.Ytenfikfgliljmaa
open Go.RowKit
namespace LA
set_option maxHeartbeats 1600000 in
set_option maxRecDepth 100000 in
theorem refDemand_any (major lp lc : Int) (needs : Bool) (A : Option Addr) (cap0 : Nat) (xs : List Need) (w : World) (hm0 : 0 ≤ major) (hm1 : major ≤ 18446744073709551615) (hx : xs.length ≤ 2147483648) (hr : RunsAt w A xs) (hok : ∀ x, x ∈ xs → x.ok) :
    Calls Try.prog 42 #[.int .u64 major, laneV lp lc needs A xs.length cap0] w (DemPost major xs needs w) := by
  by_cases hlow : major < 1
  · have H1 := hide (show demL major xs needs = (0, false) from by unfold demL; rw [if_pos (.inl hlow)])
    go_enter Try.func42, Try.ntmps42
    go_wp2_with fail
    go_ret2
    exact DemPost.mk H1.out rfl ((Below.refl _ _).alloc (Nat.le_refl _) _)
  by_cases hhigh : 65536 < major
  · have H1 := hide (show demL major xs needs = (0, false) from by unfold demL; rw [if_pos (.inr hhigh)])
    go_enter Try.func42, Try.ntmps42
    go_wp2_with fail
    go_ret2
    exact DemPost.mk H1.out rfl ((Below.refl _ _).alloc (Nat.le_refl _) _)
  have HF := hide (show demL major xs needs = demGo major needs xs 0 from by unfold demL; rw [if_neg (by omega)])
  have HR := hide hr
  have HO := hide hok
  clear hr hok
  have hN : ∀ W, Below (w.heap.size + 1) (w.alloc (.cells #[.int .i64 lp, .int .u64 lc, .bool needs, .slice A xs.length cap0] 31)) W → Below w.heap.size w W ∧ W.cell? ⟨w.heap.size, 2, none⟩ = some (.bool needs) ∧ W.cell? ⟨w.heap.size, 3, none⟩ = some (.slice A xs.length cap0) := fun W hW => by
    have r0 := Row.alloc_new w #[.int .i64 lp, .int .u64 lc, .bool needs, .slice A xs.length cap0] 31
    refine ⟨((Below.refl _ w).alloc (Nat.le_refl _) _).trans (hW.mono (by omega)), ?_, ?_⟩
    · rw [hW.cell (p := ⟨w.heap.size, 2, none⟩) (by simp)]; exact r0.cell rfl
    · rw [hW.cell (p := ⟨w.heap.size, 3, none⟩) (by simp)]; exact r0.cell rfl
  have HN := hide hN
  clear hN
  go_enter Try.func42, Try.ntmps42
  go_wp2_with fail
  have HB0 := hide (Below.refl (w.heap.size + 1) (w.alloc (.cells #[.int .i64 lp, .int .u64 lc, .bool needs, .slice A xs.length cap0] 31)))
  generalize hW1 : w.alloc (.cells #[.int .i64 lp, .int .u64 lc, .bool needs, .slice A xs.length cap0] 31) = W1 at HN HB0 ⊢
  have hs1 : W1.heap.size = w.heap.size + 1 := by rw [← hW1]; simp
  have Hs1 := hide hs1
  clear hW1 hs1
  generalize hn : w.heap.size = N at *
  have Hn := hide hn
  clear hn
  go_loopw [6, 7] (fun v7 v24 wr => ∃ (k : Nat) (s : Int), v7 = .int .u64 s ∧ v24 = .int .i64 k ∧ k ≤ xs.length ∧ 0 ≤ s ∧ s ≤ 4294967296 * k ∧ Hid (demGo major needs (xs.drop k) s = demGo major needs xs 0) ∧ Hid (Below (N + 1) W1 wr)) (fun _ v _ => xs.length - (intOf v).toNat)
  case atStart => exact ⟨0, 0, rfl, rfl, Nat.zero_le _, by omega, by omega, hide rfl, HB0⟩
  case round =>
    obtain ⟨k, s, rfl, rfl, hk, hs0, hs1, HC, HB⟩ := hrel
    by_cases hlt : k < xs.length
    · obtain ⟨b, off, hA, n0, n1, n2, n3⟩ := HR.out k hlt
      subst hA
      obtain ⟨x, hx⟩ : ∃ x, x = xs[k] := ⟨_, rfl⟩
      rw [← hx] at n0 n1 n2 n3
      have hdr : xs.drop k = x :: xs.drop (k + 1) := by rw [hx]; exact List.drop_eq_getElem_cons hlt
      have HQ : Hid (∀ W, Below (N + 1) W1 W → W.cell? ⟨b, off + k * 4, none⟩ = some (.int .i64 x.pos) ∧ W.cell? ⟨b, off + k * 4 + 1, none⟩ = some (.string x.subj) ∧ W.cell? ⟨b, off + k * 4 + 2, none⟩ = some (.int .u64 x.budget) ∧ W.cell? ⟨b, off + k * 4 + 3, none⟩ = some (.int .u64 x.period) ∧ W.cell? ⟨N, 2, none⟩ = some (.bool needs) ∧ W.cell? ⟨N, 3, none⟩ = some (.slice (some ⟨b, off, none⟩) xs.length cap0)) := hide (fun W hW => by
        obtain ⟨hb', c2, c3⟩ := HN.out W hW
        have lb : b < N := by rw [← Hn.out]; exact World.block_lt_of_cell? w _ n0
        exact ⟨(hb'.cell (p := ⟨b, off + k * 4, none⟩) lb).trans n0, (hb'.cell (p := ⟨b, off + k * 4 + 1, none⟩) lb).trans n1, (hb'.cell (p := ⟨b, off + k * 4 + 2, none⟩) lb).trans n2, (hb'.cell (p := ⟨b, off + k * 4 + 3, none⟩) lb).trans n3, c2, c3⟩)
      clear n0 n1 n2 n3
      obtain ⟨n0, n1, n2, n3, cN, cN3⟩ := HQ.out wr HB.out
      have hxo : x.ok := HO.out x (hx ▸ List.getElem_mem hlt)
      have hcheck := HC.out
      rw [hdr] at hcheck
      have Hchk := hide hcheck
      obtain ⟨r, hwr⟩ : ∃ r, r = wrongC major x needs := ⟨_, rfl⟩
      have Hri : Hid (∀ W, Calls Try.prog 50 #[.int .u64 major, .agg #[.int .i64 x.pos, .string x.subj, .int .u64 x.budget, .int .u64 x.period], .bool needs] W fun e w' =>
          e = .returned (.int .i64 r) ∧ Below W.heap.size W w') := hide (fun W => by rw [hwr]; exact refWrong_any major x needs W (by omega) (by omega) hxo)
      have Hxo := hide hxo
      have Hx := hide hx
      have HBd : Hid (Below (N + 1) W1 (World.drew wr)) := hide HB.out.drew
      clear hdr hcheck hxo hx
      by_cases hw0 : r = 0
      · subst hw0
        have hri := right_in Hxo.out hwr.symm
        obtain ⟨q, hq⟩ : ∃ q, q = wantsC major x needs := ⟨_, rfl⟩
        have hq1 : q ≤ 4294967296 := by rw [hq]; exact wants_le (by omega) hri
        have hq0 : 1 ≤ q := by rw [hq]; exact wants_pos hri
        have Hwi : Hid (∀ W, Calls Try.prog 51 #[.int .u64 major, .agg #[.int .i64 x.pos, .string x.subj, .int .u64 x.budget, .int .u64 x.period], .bool needs] W fun e w' =>
            e = .returned (.int .u64 q) ∧ Below W.heap.size W w') := hide (fun W => by rw [hq]; exact refWants_any major x needs W (by omega) (by omega) Hxo.out hri)
        have Hwr := hide hwr
        have Hq := hide hq
        clear hwr hq hri
        go_wp2_with fail
        refine wp_region_still_tail 8 (by kernel_rfl) (by kernel_rfl) ?_
        simp only [List.take_succ_cons, List.take_zero, List.drop_succ_cons, List.drop_zero]
        change wpStill _ _ (World.drew wr) _ _ _
        repeat still_step
        refine wpStill_nil ?_
        change wpList _ _ _ _ _ (World.drew wr)
        generalize World.drew wr = wa at HBd ⊢
        clear n0 n1 n2 n3 cN cN3
        go_wp2_with fail
        refine (Hri.out _).mono ?_
        rintro e w2 ⟨rfl, hb2⟩
        have HB2 : Hid (Below (N + 1) W1 w2) := hide (HBd.out.trans (hb2.mono (by have := HBd.out.size; rw [Hs1.out] at this; omega)))
        obtain ⟨n0, n1, n2, n3, cN, cN3⟩ := HQ.out w2 HB2.out
        clear hb2
        go_wp2_with fail
        go_region_with (go_at_call 51; refine (Hwi.out _).mono ?_; rintro e w3 ⟨rfl, hb3⟩)
        all_goals (
          have HB3 : Hid (Below (N + 1) W1 w3) := hide (HB2.out.trans ⟨hb3.os, hb3.tape, hb3.output, hb3.size, fun i hi => hb3.block i (Nat.lt_of_lt_of_le hi (by have := HB2.out.size; rw [Hs1.out] at this; exact this))⟩)
          clear hb3
          go_wp2_with fail
          go_roundw)
        all_goals first
          | (refine ⟨k + 1, s + q, rfl, by go_num, by omega, by omega, by omega, hide ?_, HB3⟩
             rw [← Hchk.out, demGo, if_neg (by rw [← Hwr.out]; simp), ← Hq.out])
          | (simp [intOf]; omega)
      · have hne : (r == 0) = false := beq_eq_false_iff_ne.2 hw0
        have Hwr := hide hwr
        clear hwr
        go_wp2_with fail
        refine wp_region_still_tail 8 (by kernel_rfl) (by kernel_rfl) ?_
        simp only [List.take_succ_cons, List.take_zero, List.drop_succ_cons, List.drop_zero]
        change wpStill _ _ (World.drew wr) _ _ _
        repeat still_step
        refine wpStill_nil ?_
        change wpList _ _ _ _ _ (World.drew wr)
        generalize World.drew wr = wa at HBd ⊢
        clear n0 n1 n2 n3 cN cN3
        go_wp2_with fail
        refine (Hri.out _).mono ?_
        rintro e w2 ⟨rfl, hb2⟩
        have HB2 : Hid (Below (N + 1) W1 w2) := hide (HBd.out.trans (hb2.mono (by have := HBd.out.size; rw [Hs1.out] at this; omega)))
        clear hb2
        go_wp2_with fail
        go_ret2
        refine DemPost.mk (r := (0, false)) ?_ rfl (by rw [Hn.out]; exact (HN.out w2 HB2.out).1)
        rw [HF.out, ← Hchk.out, demGo, if_pos (by rw [← Hwr.out]; exact hw0)]
    · have cN3 := (HN.out wr HB.out).2.2
      obtain rfl : k = xs.length := by omega
      go_wp2_with fail
      go_ret2
      refine DemPost.mk (r := (s, true)) ?_ rfl (by rw [Hn.out]; exact (HN.out wr HB.out).1)
      have := HC.out
      rw [List.drop_length, demGo] at this
      rw [HF.out, ← this]
end LA
end Go.Proofs.Ytenfikfgliljmaa
