/- The reference's Flatten. -/
import Derived.Test.YtenfikfgliljmaaMB
import Derived.Test.YtenfikfgliljmaaTK
import Derived.Test.YtenfikfgliljmaaFD
import Derived.StillTailTactics
import Derived.Deep.RegionWith
namespace Go.Proofs.Ytenfikfgliljmaa
open Go.RowKit
namespace LA
theorem und22 : Try.prog.underlying 22 = some (.slice 33) := by kernel_rfl
/-- The row in memory, where one tick more goes into its last slot. -/
theorem SVal.same {w : World} {B g cap : Nat} {cur : Array Value} {zs : List Slot} {y : Slot} (hs : SRow w g (zs ++ [y]) cap cur) (hB : B ≤ g) (t : Int) :
    SVal (w.setCell ⟨g, zs.length * 3 + 2, none⟩ (.int .i64 t)) B (.slice (some ⟨g, 0, none⟩) (zs.length + 1) cap) (zs ++ [⟨y.subj, y.lo, t⟩]) := by
  refine .inr ⟨g, cap, cur.setIfInBounds (zs.length * 3 + 2) (.int .i64 t), by simp, hB, ⟨hs.1.setCell _ _, ?_, hs.2.2.1, by simp; exact hs.2.2.2.1, SC_setHi hs.2.2.2.2 _⟩, by simp⟩
  have := hs.2.1
  simpa using this
theorem SVal.new {w : World} {B g cap n : Nat} {ys : List Slot} {ls : List Value} (h : w.ownsRow 0 33 3 (.slice (some ⟨g, 0, none⟩) n cap) n ls) (he : ls = sflat ys) (hn : n = ys.length) (h0 : 0 < n) (hB : B ≤ g) :
    SVal w B (.slice (some ⟨g, 0, none⟩) n cap) ys := by
  subst he
  obtain ⟨cur, hr⟩ := SRow_of_owns h hn h0
  exact .inr ⟨g, cap, cur, by rw [hn], hB, hr, by omega⟩

set_option maxHeartbeats 6400000 in
set_option maxRecDepth 100000 in
theorem refFlatten_any (major lp lc : Int) (needs : Bool) (A : Option Addr) (cap0 : Nat) (xs : List Need) (w : World) (hm0 : 0 ≤ major) (hm1 : major ≤ 18446744073709551615) (hx : xs.length ≤ 2147483648) (hr : RunsAt w A xs) (hok : ∀ x, x ∈ xs → x.ok) :
    Calls Try.prog 30 #[.int .u64 major, laneV lp lc needs A xs.length cap0] w (FlatPost major xs needs w) := by
  obtain ⟨M, rfl⟩ := Int.eq_ofNat_of_zero_le hm0
  by_cases hlow : (M : Int) < 1
  · have H1 := hide (show flatL (M : Int) xs needs = ([], -1, 92) from by unfold flatL; rw [if_pos (.inl hlow)])
    go_enter Try.func30, Try.ntmps30
    go_wp2_with fail
    go_ret3
    exact FlatPost.none H1.out rfl ((Below.refl _ _).alloc (Nat.le_refl _) _)
  by_cases hhigh : 65536 < (M : Int)
  · have H1 := hide (show flatL (M : Int) xs needs = ([], -1, 92) from by unfold flatL; rw [if_pos (.inr hhigh)])
    go_enter Try.func30, Try.ntmps30
    go_wp2_with fail
    go_ret3
    exact FlatPost.none H1.out rfl ((Below.refl _ _).alloc (Nat.le_refl _) _)
  have HF := hide (show flatL (M : Int) xs needs = flatE (M : Int) xs needs (checkL (M : Int) needs xs 0 0) from by unfold flatL; rw [if_neg (by omega)])
  have HR := hide hr
  have HO := hide hok
  clear hr hok
  have hN : ∀ W, Below (w.heap.size + 1) (w.alloc (.cells #[.int .i64 lp, .int .u64 lc, .bool needs, .slice A xs.length cap0] 31)) W → Below w.heap.size w W ∧ W.cell? ⟨w.heap.size, 2, none⟩ = some (.bool needs) ∧ W.cell? ⟨w.heap.size, 3, none⟩ = some (.slice A xs.length cap0) ∧ W.cell? ⟨w.heap.size, 0, none⟩ = some (.int .i64 lp) ∧ W.cell? ⟨w.heap.size, 1, none⟩ = some (.int .u64 lc) := fun W hW => by
    have r0 := Row.alloc_new w #[.int .i64 lp, .int .u64 lc, .bool needs, .slice A xs.length cap0] 31
    refine ⟨((Below.refl _ w).alloc (Nat.le_refl _) _).trans (hW.mono (by omega)), ?_, ?_, ?_, ?_⟩
    · rw [hW.cell (p := ⟨w.heap.size, 2, none⟩) (by simp)]; exact r0.cell rfl
    · rw [hW.cell (p := ⟨w.heap.size, 3, none⟩) (by simp)]; exact r0.cell rfl
    · rw [hW.cell (p := ⟨w.heap.size, 0, none⟩) (by simp)]; exact r0.cell rfl
    · rw [hW.cell (p := ⟨w.heap.size, 1, none⟩) (by simp)]; exact r0.cell rfl
  have HN := hide hN
  clear hN
  go_enter Try.func30, Try.ntmps30
  go_wp2_with fail
  have HB0 := hide (Below.refl (w.heap.size + 1) (w.alloc (.cells #[.int .i64 lp, .int .u64 lc, .bool needs, .slice A xs.length cap0] 31)))
  generalize hW1 : w.alloc (.cells #[.int .i64 lp, .int .u64 lc, .bool needs, .slice A xs.length cap0] 31) = W1 at HN HB0 ⊢
  have hs1 : W1.heap.size = w.heap.size + 1 := by rw [← hW1]; simp
  have Hs1 := hide hs1
  clear hW1 hs1
  generalize hn : w.heap.size = N at *
  have Hn := hide hn
  clear hn
  go_loopw [7, 8] (fun v7 v24 wr => ∃ (k : Nat) (s : Int), v7 = .int .u64 s ∧ v24 = .int .i64 k ∧ k ≤ xs.length ∧ 0 ≤ s ∧ s ≤ (M : Int) ∧ Hid (checkL (M : Int) needs (xs.drop k) k s = checkL (M : Int) needs xs 0 0) ∧ Hid (Below (N + 1) W1 wr)) (fun _ v _ => xs.length - (intOf v).toNat)
  case atStart => exact ⟨0, 0, rfl, rfl, Nat.zero_le _, by omega, by omega, hide rfl, HB0⟩
  case round =>
    obtain ⟨k, s, rfl, rfl, hk, hs0, hs1, HC, HB⟩ := hrel
    by_cases hlt : k < xs.length
    · obtain ⟨b, off, hA, n0, n1, n2, n3⟩ := HR.out k hlt
      subst hA
      obtain ⟨x, hx⟩ : ∃ x, x = xs[k] := ⟨_, rfl⟩
      rw [← hx] at n0 n1 n2 n3
      have hdr : xs.drop k = x :: xs.drop (k + 1) := by rw [hx]; exact List.drop_eq_getElem_cons hlt
      have HQ : Hid (∀ W, Below (N + 1) W1 W → W.cell? ⟨b, off + k * 4, none⟩ = some (.int .i64 x.pos) ∧ W.cell? ⟨b, off + k * 4 + 1, none⟩ = some (.string x.subj) ∧ W.cell? ⟨b, off + k * 4 + 2, none⟩ = some (.int .u64 x.budget) ∧ W.cell? ⟨b, off + k * 4 + 3, none⟩ = some (.int .u64 x.period) ∧ W.cell? ⟨N, 2, none⟩ = some (.bool needs) ∧ W.cell? ⟨N, 3, none⟩ = some (.slice (some ⟨b, off, none⟩) xs.length cap0)) := hide (fun W hW => by
        obtain ⟨hb', c2, c3, _, _⟩ := HN.out W hW
        have lb : b < N := by rw [← Hn.out]; exact World.block_lt_of_cell? w _ n0
        exact ⟨(hb'.cell (p := ⟨b, off + k * 4, none⟩) lb).trans n0, (hb'.cell (p := ⟨b, off + k * 4 + 1, none⟩) lb).trans n1, (hb'.cell (p := ⟨b, off + k * 4 + 2, none⟩) lb).trans n2, (hb'.cell (p := ⟨b, off + k * 4 + 3, none⟩) lb).trans n3, c2, c3⟩)
      clear n0 n1 n2 n3
      obtain ⟨n0, n1, n2, n3, cN, cN3⟩ := HQ.out wr HB.out
      have hxo : x.ok := HO.out x (hx ▸ List.getElem_mem hlt)
      have hcheck := HC.out
      rw [hdr] at hcheck
      have Hchk := hide hcheck
      obtain ⟨r, hwr⟩ : ∃ r, r = wrongC (M : Int) x needs := ⟨_, rfl⟩
      have Hri : Hid (∀ W, Calls Try.prog 50 #[.int .u64 (M : Int), .agg #[.int .i64 x.pos, .string x.subj, .int .u64 x.budget, .int .u64 x.period], .bool needs] W fun e w' =>
          e = .returned (.int .i64 r) ∧ Below W.heap.size W w') := hide (fun W => by rw [hwr]; exact refWrong_any (M : Int) x needs W (by omega) (by omega) hxo)
      have Hxo := hide hxo
      have Hx := hide hx
      have HBd : Hid (Below (N + 1) W1 (World.drew wr)) := hide HB.out.drew
      clear hdr hcheck hxo hx
      by_cases hw0 : r = 0
      · subst hw0
        have hri := right_in Hxo.out hwr.symm
        obtain ⟨q, hq⟩ : ∃ q, q = wantsC (M : Int) x needs := ⟨_, rfl⟩
        have hq1 : q ≤ 4294967296 := by rw [hq]; exact wants_le (by omega) hri
        have hq0 : 1 ≤ q := by rw [hq]; exact wants_pos hri
        have Hwi : Hid (∀ W, Calls Try.prog 51 #[.int .u64 (M : Int), .agg #[.int .i64 x.pos, .string x.subj, .int .u64 x.budget, .int .u64 x.period], .bool needs] W fun e w' =>
            e = .returned (.int .u64 q) ∧ Below W.heap.size W w') := hide (fun W => by rw [hq]; exact refWants_any (M : Int) x needs W (by omega) (by omega) Hxo.out hri)
        have Hwr := hide hwr
        have Hq := hide hq
        clear hwr hq hri
        go_wp2_with fail
        refine wp_region_still_tail 8 (by kernel_rfl) (by kernel_rfl) ?_
        simp only [List.take_succ_cons, List.take_zero, List.drop_succ_cons, List.drop_zero]
        change wpStill _ _ (World.drew wr) _ _ _
        repeat still_step
        refine wpStill_nil ?_
        change wpList _ _ _ _ _ (World.drew wr)
        generalize World.drew wr = wa at HBd ⊢
        clear n0 n1 n2 n3 cN cN3
        go_wp2_with fail
        refine (Hri.out _).mono ?_
        rintro e w2 ⟨rfl, hb2⟩
        have HB2 : Hid (Below (N + 1) W1 w2) := hide (HBd.out.trans (hb2.mono (by have := HBd.out.size; rw [Hs1.out] at this; omega)))
        obtain ⟨n0, n1, n2, n3, cN, cN3⟩ := HQ.out w2 HB2.out
        clear hb2
        go_wp2_with fail
        by_cases hgt : (M : Int) < s + q
        · go_region_with (go_at_call 51; refine (Hwi.out _).mono ?_; rintro e w3 ⟨rfl, hb3⟩)
          all_goals (
            have HB3 : Hid (Below (N + 1) W1 w3) := hide (HB2.out.trans ⟨hb3.os, hb3.tape, hb3.output, hb3.size, fun i hi => hb3.block i (Nat.lt_of_lt_of_le hi (by have := HB2.out.size; rw [Hs1.out] at this; exact this))⟩)
            clear hb3
            go_wp2_with fail
            go_ret3
            refine FlatPost.none (i := (k : Int)) (r := 93) ?_ rfl (by rw [Hn.out]; exact (HN.out w3 HB3.out).1)
            rw [HF.out, ← Hchk.out, checkL, if_neg (by rw [← Hwr.out]; simp), ← Hq.out, if_pos hgt]; rfl)
        · go_region_with (go_at_call 51; refine (Hwi.out _).mono ?_; rintro e w3 ⟨rfl, hb3⟩)
          all_goals (
            have HB3 : Hid (Below (N + 1) W1 w3) := hide (HB2.out.trans ⟨hb3.os, hb3.tape, hb3.output, hb3.size, fun i hi => hb3.block i (Nat.lt_of_lt_of_le hi (by have := HB2.out.size; rw [Hs1.out] at this; exact this))⟩)
            clear hb3
            go_wp2_with fail
            go_roundw)
          all_goals first
            | (refine ⟨k + 1, s + q, rfl, by go_num, by omega, by omega, by omega, hide ?_, HB3⟩
               rw [← Hchk.out, checkL, if_neg (by rw [← Hwr.out]; simp), ← Hq.out, if_neg (by omega)]; rfl)
            | (simp [intOf]; omega)
      · have hne : (r == 0) = false := beq_eq_false_iff_ne.2 hw0
        have Hwr := hide hwr
        clear hwr
        go_wp2_with fail
        refine wp_region_still_tail 8 (by kernel_rfl) (by kernel_rfl) ?_
        simp only [List.take_succ_cons, List.take_zero, List.drop_succ_cons, List.drop_zero]
        change wpStill _ _ (World.drew wr) _ _ _
        repeat still_step
        refine wpStill_nil ?_
        change wpList _ _ _ _ _ (World.drew wr)
        generalize World.drew wr = wa at HBd ⊢
        clear n0 n1 n2 n3 cN cN3
        go_wp2_with fail
        refine (Hri.out _).mono ?_
        rintro e w2 ⟨rfl, hb2⟩
        have HB2 : Hid (Below (N + 1) W1 w2) := hide (HBd.out.trans (hb2.mono (by have := HBd.out.size; rw [Hs1.out] at this; omega)))
        clear hb2
        go_wp2_with fail
        go_ret3
        refine FlatPost.none (i := (k : Int)) (r := r) ?_ rfl (by rw [Hn.out]; exact (HN.out w2 HB2.out).1)
        rw [HF.out, ← Hchk.out, checkL, if_pos (by rw [← Hwr.out]; exact hw0), ← Hwr.out]; rfl
    · obtain rfl : k = xs.length := by omega
      have hc := HC.out
      rw [List.drop_length] at hc
      simp only [checkL] at hc
      have hok2 := check_ok hc.symm
      have HC := hide hc
      clear hc
      obtain ⟨hbl, c2, c3, c0, c1⟩ := HN.out wr HB.out
      have hri : ∀ x, x ∈ xs → RightIn (M : Int) x needs := fun x hx => right_in (HO.out x hx) (hok2.2.1 x hx)
      have hpos : ∀ x, x ∈ xs → 1 ≤ x.budget := fun x hx => (hri x hx).pos
      have hsum : sumW (M : Int) needs xs ≤ M := by have h1 := hok2.1; have h2 := hok2.2.2 (by omega); omega
      have hlen : (xs.length : Int) ≤ sumW (M : Int) needs xs := sumW_len fun x hx => wants_pos (hri x hx)
      have hT : ∀ W, RunsAt W A xs → Calls Try.prog 52 #[.int .i64 (M : Int), laneV lp lc needs A xs.length cap0] W (TicksPost (ticksL M xs needs) W) := fun W hW => by
        cases needs with
        | true => exact ticks_needs M lp lc A cap0 xs W (by omega) (by omega) (by omega) hW (fun x hx => by
            have h1 := (hri x hx).per rfl
            have h2 := (hri x hx).pos
            exact ⟨by omega, by omega, by omega, by omega⟩)
        | false =>
          have hl := runsTicks_len xs 0 (M : Int) hpos
          exact ticks_runs M lp lc A cap0 xs W (by omega) (by omega) (by omega) hW (fun x hx => ⟨(hri x hx).pos, by have := (hri x hx).le; omega⟩) (by omega)
      have HT := hide hT
      have HTl := hide (ticks_len (M := M) (xs := xs) (needs := needs) hpos (fun e => by subst e; exact hsum))
      have HTi := hide (ticks_in (M := M) (xs := xs) (needs := needs))
      have HTr := hide (rowT_ticks (M := M) (xs := xs) (needs := needs) hpos (fun e => by subst e; exact hsum))
      have HRw := hide (HR.out.below (by rw [Hn.out]; exact hbl))
      have Hok2 := hide hok2
      have Hbl := hide hbl
      have lb : N < wr.heap.size := World.block_lt_of_cell? wr _ c2
      clear hok2 hri hpos hsum hT hbl
      obtain ⟨i0, hi, hz0, hz1, hz2⟩ := info_parts info33
      have Hi := hide hi; have Hz0 := hide hz0; have Hz1 := hide hz1; have Hz2 := hide hz2
      clear hi hz0 hz1 hz2
      go_wp2_with fail
      refine (HT.out _ HRw.out).mono ?_
      rintro e w2 ⟨gT, capT, rfl, hgT, hcT, hb2⟩
      generalize hTT : ticksL M xs needs = T at *
      have HcT := hide hcT
      have Hb2 := hide hb2
      have hs2 := hb2.size
      clear hcT hTT
      have HBw : Hid (Below N w w2) := hide (Hbl.out.trans (hb2.mono (by omega)))
      have d3 : w2.cell? ⟨N, 3, none⟩ = some (.slice A xs.length cap0) := (hb2.cell (p := ⟨N, 3, none⟩) lb).trans c3
      have Hd3 := hide d3
      have HRw2 := hide (HRw.out.below hb2)
      have hTl : T.length ≤ 65536 := by rw [HTl.out]; omega
      clear d3 hb2 c0 c1 c2 c3
      go_wp2_with fail
      go_loopw [11, 12] (fun v11 v12 wr => ∃ (t : Nat) (ys : List Slot), v12 = .int .i64 t ∧ t ≤ T.length ∧ Hid (ys = rowT xs [] (T.take t)) ∧ Hid (SVal wr w2.heap.size v11 ys) ∧ Hid (Below w2.heap.size w2 wr)) (fun _ v _ => T.length - (intOf v).toNat)
      case atStart => exact ⟨0, [], rfl, Nat.zero_le _, hide rfl, hide (.inl ⟨rfl, rfl⟩), hide (Below.refl _ _)⟩
      case round =>
        obtain ⟨t, ys, rfl, ht, HY, HV, HW⟩ := hrel
        have hy1 : ys.length ≤ 65536 := by
          have h1 := length_rowT xs (T.take t) []
          have h2 := List.length_take_le t T
          rw [HY.out]; simp at h1; omega
        have hwz := HW.out.size
        by_cases hlt : t < T.length
        · obtain ⟨i, hi⟩ : ∃ i, i = T[t] := ⟨_, rfl⟩
          have hcell := HcT.out t hlt
          have lT : gT < w2.heap.size := World.block_lt_of_cell? w2 _ hcell
          have hc := (HW.out.cell (p := ⟨gT, t, none⟩) lT).trans hcell
          rw [← hi] at hc
          have hin := HTi.out i (hi ▸ List.getElem_mem hlt)
          have he := hide (endL_rowT_take xs T t (by omega))
          have HS0 := hide (rowT_take (xs := xs) hlt)
          rw [← hi, ← HY.out] at HS0
          rw [← HY.out] at he
          clear hcell hi
          rcases hin with rfl | ⟨n, hn, rfl⟩
          · have HS : Hid (rowT xs [] (T.take (t + 1)) = runL ys ⟨#[]⟩ 1) := HS0
            clear HS0
            go_upto_region 21 with fail
            generalize hs0 : (⟨#[]⟩ : ByteArray) = s at HS ⊢
            have hs0' := hide hs0
            clear hs0
            rcases HV.out with ⟨rfl, rfl⟩ | ⟨g, cap, cur, rfl, hg, hsr, h0⟩
            · have HE : Hid (rowT xs [] (T.take (t + 1)) = [⟨s, 0, 1⟩]) := hide HS.out
              have ht0 : t = 0 := by have := he.out; simp [endL, Slot.zero] at this; omega
              subst ht0
              go_wp2_with (at_builtin; refine wpList_append_lies _ rfl (.tmp 103) (.tmp 109) 22 rfl 0 33 i0 (.agg #[.string ⟨#[]⟩, .int .i64 0, .int .i64 0]) 3 32 und22 Hi.out Hz0.out Hz1.out Hz2.out rfl (by decide) (.slice none 0 0) 0 [] rfl (World.ownsRow_nil _ _ _ _) ⟨wr.heap.size, 0, none⟩ 1 1 [.string s, .int .i64 0, .int .i64 1] rfl rfl (by exact World.news_of_block (cs := #[.string s, .int .i64 0, .int .i64 1]) (heap_alloc_new wr _)) (by simp [Value.oneCell']) (by decide) (by unfold maxLen; omega) (by omega) (Nat.zero_le _) (wr.heap.size + 1) (by simp) ?_)
              intro g2 cap2 w4 hown2 hgrow2 hat2 hlt2
              have hg2 : g2 = wr.heap.size + 1 := by
                rcases hat2 with h | h
                · simp [Value.ownBlock] at h
                · exact h
              have HV4 := hide (SVal.new (B := w2.heap.size) (ys := [⟨s, 0, 1⟩]) hown2 rfl rfl (by decide) (by omega))
              have HW4 : Hid (Below w2.heap.size w2 w4) := hide ((HW.out.alloc (by omega) _).grown hgrow2 (by simp; omega) (by simp [Value.ownBlock]))
              clear hown2 hgrow2 hat2 hlt2
              go_wp2_with fail
              go_roundw
              case rel => exact ⟨1, [⟨s, 0, 1⟩], rfl, by omega, hide HE.out.symm, HV4, HW4⟩
              case measure => simp [intOf]; omega
            · obtain ⟨zs, y, rfl⟩ : ∃ zs y, ys = zs ++ [y] := by
                rcases list_cases ys with e | e
                · rw [e] at h0; simp at h0
                · exact e
              have hl : zs.length ≤ 65536 := by simp at hy1; omega
              have hye : y.hi = t := by have := he.out; simpa [endL] using this
              have Hye := hide hye
              have HY' := HY
              have hlz : (zs ++ [y]).length = zs.length + 1 := by simp
              rw [hlz] at hy1 ⊢
              obtain ⟨c0, c1, c2⟩ := hsr.2.2.2.2.2 zs.length (by simp)
              rw [List.getElem_concat_length rfl] at c0 c1 c2
              replace c0 := hsr.1.cell c0
              replace c2 := hsr.1.cell c2
              rw [hye] at c2
              have hfz := hsr.1.frozen (zs.length * 3 + 2)
              have Hsr := hide hsr
              have Hg := hide hg
              have hgw := hsr.1.lt
              clear hsr c1 h0 hye hlz
              by_cases hs : (y.subj.toList == s.toList) = true
              · have HE : Hid (rowT xs [] (T.take (t + 1)) = zs ++ [⟨y.subj, y.lo, (t : Int) + 1⟩]) := hide (by rw [HS.out, runL_concat, if_pos hs, Hye.out])
                go_wp2_with fail
                go_roundw
                case rel =>
                  exact ⟨t + 1, zs ++ [⟨y.subj, y.lo, (t : Int) + 1⟩], by go_num, by omega, hide HE.out.symm, hide (SVal.same Hsr.out Hg.out _), hide (HW.out.setCell (by simpa using Hg.out) _)⟩
                case measure => simp [intOf]; omega
              · have hs' : (y.subj.toList == s.toList) = false := by simpa using hs
                have HE : Hid (rowT xs [] (T.take (t + 1)) = (zs ++ [y]) ++ [⟨s, t, (t : Int) + 1⟩]) := hide (by rw [HS.out, runL_concat, if_neg hs, Hye.out])
                have Hs := hide hs
                clear hs
                have Hown := hide Hsr.out.owns
                go_wp2_with (at_builtin; refine wpList_append_lies _ rfl (.tmp 103) (.tmp 109) 22 rfl 0 33 i0 (.agg #[.string ⟨#[]⟩, .int .i64 0, .int .i64 0]) 3 32 und22 Hi.out Hz0.out Hz1.out Hz2.out rfl (by decide) (.slice (some ⟨g, 0, none⟩) (zs.length + 1) cap) (zs.length + 1) (sflat (zs ++ [y])) rfl (by have := Hown.out.alloc (.cells #[.string s, .int .i64 t, .int .i64 (t + 1)] 33); rw [List.length_append, List.length_singleton] at this; exact this) ⟨wr.heap.size, 0, none⟩ 1 1 [.string s, .int .i64 t, .int .i64 (t + 1)] rfl rfl (by exact World.news_of_block (cs := #[.string s, .int .i64 t, .int .i64 (t + 1)]) (heap_alloc_new wr _)) (by simp [Value.oneCell']) (by decide) (by unfold maxLen; omega) (by omega) (Nat.zero_le _) (wr.heap.size + 1) (by simp) ?_)
                intro g2 cap2 w4 hown2 hgrow2 hat2 hlt2
                have hg2 : w2.heap.size ≤ g2 := by
                  rcases hat2 with h | h
                  · have : g = g2 := by simpa [Value.ownBlock] using h
                    have := Hg.out; omega
                  · omega
                have HV4 := hide (SVal.new (B := w2.heap.size) (ys := (zs ++ [y]) ++ [⟨s, t, (t : Int) + 1⟩]) hown2 (by rw [sflat_append (zs ++ [y]) [⟨s, t, (t : Int) + 1⟩]]; rfl) (by simp) (by omega) hg2)
                have HW4 : Hid (Below w2.heap.size w2 w4) := hide ((HW.out.alloc (by omega) _).grown hgrow2 (by simp; omega) (by have := Hg.out; simp [Value.ownBlock]; omega))
                clear hown2 hgrow2 hat2 hlt2 c0 c2 hfz
                go_wp2_with fail
                go_roundw
                case rel => exact ⟨t + 1, _, by go_num, by omega, hide HE.out.symm, HV4, HW4⟩
                case measure => simp [intOf]; omega
          · obtain ⟨b, off, hA, n0, n1, n2, n3⟩ := HRw2.out n hn
            subst hA
            obtain ⟨s, hs⟩ : ∃ s, s = xs[n].subj := ⟨_, rfl⟩
            rw [← hs] at n1
            have HS : Hid (rowT xs [] (T.take (t + 1)) = runL ys s 1) := hide (by
              have := HS0.out
              rw [this, hs]; unfold nameOf; rw [if_neg (by omega)]; simp [List.getD, hn])
            have c3 := (HW.out.cell (p := ⟨N, 3, none⟩) (show N < w2.heap.size by omega)).trans Hd3.out
            replace n1 := (HW.out.cell (p := ⟨b, off + n * 4 + 1, none⟩) (World.block_lt_of_cell? w2 _ n1)).trans n1
            clear n0 n2 n3 HS0 hs
            go_wp2_with fail
            go_quiet (fail)
            replace HW : Hid (Below w2.heap.size w2 (wr.drewN nq)) := hide (HW.out.trans ⟨rfl, rfl, rfl, Nat.le_refl _, fun _ _ => rfl⟩)
            replace HV : Hid (SVal (wr.drewN nq) w2.heap.size _ ys) := HV
            replace hwz : w2.heap.size ≤ (wr.drewN nq).heap.size := hwz
            clear c3 n1 hc
            generalize wr.drewN nq = wr at *
            rcases HV.out with ⟨rfl, rfl⟩ | ⟨g, cap, cur, rfl, hg, hsr, h0⟩
            · have HE : Hid (rowT xs [] (T.take (t + 1)) = [⟨s, 0, 1⟩]) := hide HS.out
              have ht0 : t = 0 := by have := he.out; simp [endL, Slot.zero] at this; omega
              subst ht0
              go_wp2_with (at_builtin; refine wpList_append_lies _ rfl (.tmp 103) (.tmp 109) 22 rfl 0 33 i0 (.agg #[.string ⟨#[]⟩, .int .i64 0, .int .i64 0]) 3 32 und22 Hi.out Hz0.out Hz1.out Hz2.out rfl (by decide) (.slice none 0 0) 0 [] rfl (World.ownsRow_nil _ _ _ _) ⟨wr.heap.size, 0, none⟩ 1 1 [.string s, .int .i64 0, .int .i64 1] rfl rfl (by exact World.news_of_block (cs := #[.string s, .int .i64 0, .int .i64 1]) (heap_alloc_new wr _)) (by simp [Value.oneCell']) (by decide) (by unfold maxLen; omega) (by omega) (Nat.zero_le _) (wr.heap.size + 1) (by simp) ?_)
              intro g2 cap2 w4 hown2 hgrow2 hat2 hlt2
              have hg2 : g2 = wr.heap.size + 1 := by
                rcases hat2 with h | h
                · simp [Value.ownBlock] at h
                · exact h
              have HV4 := hide (SVal.new (B := w2.heap.size) (ys := [⟨s, 0, 1⟩]) hown2 rfl rfl (by decide) (by omega))
              have HW4 : Hid (Below w2.heap.size w2 w4) := hide ((HW.out.alloc (by omega) _).grown hgrow2 (by simp; omega) (by simp [Value.ownBlock]))
              clear hown2 hgrow2 hat2 hlt2
              go_wp2_with fail
              go_roundw
              case rel => exact ⟨1, [⟨s, 0, 1⟩], rfl, by omega, hide HE.out.symm, HV4, HW4⟩
              case measure => simp [intOf]; omega
            · obtain ⟨zs, y, rfl⟩ : ∃ zs y, ys = zs ++ [y] := by
                rcases list_cases ys with e | e
                · rw [e] at h0; simp at h0
                · exact e
              have hl : zs.length ≤ 65536 := by simp at hy1; omega
              have hye : y.hi = t := by have := he.out; simpa [endL] using this
              have Hye := hide hye
              have HY' := HY
              have hlz : (zs ++ [y]).length = zs.length + 1 := by simp
              rw [hlz] at hy1 ⊢
              obtain ⟨c0, c1, c2⟩ := hsr.2.2.2.2.2 zs.length (by simp)
              rw [List.getElem_concat_length rfl] at c0 c1 c2
              replace c0 := hsr.1.cell c0
              replace c2 := hsr.1.cell c2
              rw [hye] at c2
              have hfz := hsr.1.frozen (zs.length * 3 + 2)
              have Hsr := hide hsr
              have Hg := hide hg
              have hgw := hsr.1.lt
              clear hsr c1 h0 hye hlz
              by_cases hs : (y.subj.toList == s.toList) = true
              · have HE : Hid (rowT xs [] (T.take (t + 1)) = zs ++ [⟨y.subj, y.lo, (t : Int) + 1⟩]) := hide (by rw [HS.out, runL_concat, if_pos hs, Hye.out])
                go_wp2_with fail
                go_roundw
                case rel =>
                  exact ⟨t + 1, zs ++ [⟨y.subj, y.lo, (t : Int) + 1⟩], by go_num, by omega, hide HE.out.symm, hide (SVal.same Hsr.out Hg.out _), hide (HW.out.setCell (by simpa using Hg.out) _)⟩
                case measure => simp [intOf]; omega
              · have hs' : (y.subj.toList == s.toList) = false := by simpa using hs
                have HE : Hid (rowT xs [] (T.take (t + 1)) = (zs ++ [y]) ++ [⟨s, t, (t : Int) + 1⟩]) := hide (by rw [HS.out, runL_concat, if_neg hs, Hye.out])
                have Hs := hide hs
                clear hs
                have Hown := hide Hsr.out.owns
                go_wp2_with (at_builtin; refine wpList_append_lies _ rfl (.tmp 103) (.tmp 109) 22 rfl 0 33 i0 (.agg #[.string ⟨#[]⟩, .int .i64 0, .int .i64 0]) 3 32 und22 Hi.out Hz0.out Hz1.out Hz2.out rfl (by decide) (.slice (some ⟨g, 0, none⟩) (zs.length + 1) cap) (zs.length + 1) (sflat (zs ++ [y])) rfl (by have := Hown.out.alloc (.cells #[.string s, .int .i64 t, .int .i64 (t + 1)] 33); rw [List.length_append, List.length_singleton] at this; exact this) ⟨wr.heap.size, 0, none⟩ 1 1 [.string s, .int .i64 t, .int .i64 (t + 1)] rfl rfl (by exact World.news_of_block (cs := #[.string s, .int .i64 t, .int .i64 (t + 1)]) (heap_alloc_new wr _)) (by simp [Value.oneCell']) (by decide) (by unfold maxLen; omega) (by omega) (Nat.zero_le _) (wr.heap.size + 1) (by simp) ?_)
                intro g2 cap2 w4 hown2 hgrow2 hat2 hlt2
                have hg2 : w2.heap.size ≤ g2 := by
                  rcases hat2 with h | h
                  · have : g = g2 := by simpa [Value.ownBlock] using h
                    have := Hg.out; omega
                  · omega
                have HV4 := hide (SVal.new (B := w2.heap.size) (ys := (zs ++ [y]) ++ [⟨s, t, (t : Int) + 1⟩]) hown2 (by rw [sflat_append (zs ++ [y]) [⟨s, t, (t : Int) + 1⟩]]; rfl) (by simp) (by omega) hg2)
                have HW4 : Hid (Below w2.heap.size w2 w4) := hide ((HW.out.alloc (by omega) _).grown hgrow2 (by simp; omega) (by have := Hg.out; simp [Value.ownBlock]; omega))
                clear hown2 hgrow2 hat2 hlt2 c0 c2 hfz
                go_wp2_with fail
                go_roundw
                case rel => exact ⟨t + 1, _, by go_num, by omega, hide HE.out.symm, HV4, HW4⟩
                case measure => simp [intOf]; omega
        · obtain rfl : t = T.length := by omega
          have HY2 : Hid (ys = flatRow M xs needs) := hide (by have := HY.out; rw [List.take_length, HTr.out] at this; exact this)
          have hte := endL_rowT_take xs T T.length (Nat.le_refl _)
          rw [← HY.out, HTl.out] at hte
          have Hte := hide hte
          clear HY hte
          have HBE : Hid (Below w.heap.size w wr) := hide (by rw [Hn.out]; exact HBw.out.trans (HW.out.mono (by omega)))
          rcases HV.out with ⟨rfl, hys⟩ | ⟨g, cap, cur, rfl, hg, hsr, h0⟩
          · exfalso
            have := Hte.out
            rw [hys] at this
            simp [endL, Slot.zero] at this
            omega
          · by_cases hbig : 4096 < ys.length
            · have hfl := hide (show flatL (M : Int) xs needs = ([], -1, 4) by rw [HF.out, ← HC.out, flatE, ← HY2.out, if_pos hbig])
              have Hsr := hide hsr
              clear hsr
              go_wp2_with fail
              go_ret3
              exact FlatPost.none hfl.out rfl HBE.out
            · have hfl := hide (show flatL (M : Int) xs needs = (ys, 0, 0) by rw [HF.out, ← HC.out, flatE, ← HY2.out, if_neg hbig])
              have Hsr := hide hsr
              have hg' : w.heap.size ≤ g := by rw [Hn.out]; omega
              clear hsr
              go_wp2_with fail
              go_ret3
              refine ⟨_, by rw [hfl.out]; rfl, .inr ⟨g, cap, cur, ?_, hg', ?_, ?_⟩, HBE.out⟩
              · rw [hfl.out]; rfl
              · rw [hfl.out]; exact Hsr.out
              · rw [hfl.out]; exact h0
end LA
end Go.Proofs.Ytenfikfgliljmaa
