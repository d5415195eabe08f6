import Derived.Test.YtenfikfgliljmaaBB
import Derived.Test.YtenfikfgliljmaaB3
import Derived.Test.YtenfikfgliljmaaMB
namespace Go.Proofs.Ytenfikfgliljmaa
open Go.RowKit
namespace LA
/-- A lane, handed in. -/
abbrev laneV (lp lc : Int) (needs : Bool) (A : Option Addr) (n cap : Nat) : Value := .agg #[.int .i64 lp, .int .u64 lc, .bool needs, .slice A n cap]

/-- What Flatten leaves. -/
def FlatPost (major : Int) (xs : List Need) (needs : Bool) (w : World) (e : Ending) (w' : World) : Prop :=
  ∃ v, e = .returned (.tuple #[v, .int .i64 (flatL major xs needs).2.1, .int .i64 (flatL major xs needs).2.2]) ∧ SVal w' w.heap.size v (flatL major xs needs).1 ∧ Below w.heap.size w w'
theorem FlatPost.none {major : Int} {xs : List Need} {needs : Bool} {w : World} {e : Ending} {w' : World} {i r : Int} (h : flatL major xs needs = ([], i, r)) (he : e = .returned (.tuple #[.slice none 0 0, .int .i64 i, .int .i64 r])) (hb : Below w.heap.size w w') : FlatPost major xs needs w e w' :=
  ⟨_, by rw [h]; exact he, .inl ⟨rfl, by rw [h]⟩, hb⟩

theorem end_any (w : World) (g : Nat) (ys : List Slot) (cap : Nat) (cur : Array Value) (h : SRow w g ys cap cur) (h0 : 0 < ys.length) (hl : ys.length ≤ 1099511627776) :
    Calls Try.prog 39 #[.slice (some ⟨g, 0, none⟩) ys.length cap] w fun e w' => e = .returned (.int .i64 (endL ys)) ∧ w = w' := by
  rcases list_cases ys with rfl | ⟨zs, y, rfl⟩
  · simp at h0
  · obtain ⟨c0, c1, c2⟩ := h.2.2.2.2.2 zs.length (by simp)
    rw [List.getElem_concat_length rfl] at c2
    have := end_some w g zs.length cap y.hi (by simp at hl; omega) (h.1.cell c2)
    rw [show (zs ++ [y]).length = zs.length + 1 by simp, show endL (zs ++ [y]) = y.hi by simp [endL]]
    exact this

theorem rowOf_pos (f : Nat → ByteArray) (t : Nat) (h : 0 < t) : 0 < (rowOf f t).length := by
  obtain ⟨s, rfl⟩ : ∃ s, t = s + 1 := ⟨t - 1, by omega⟩
  rw [rowOf]
  rcases list_cases (rowOf f s) with e | ⟨zs, y, e⟩
  · rw [e, runL_nil]; simp
  · rw [e, runL_concat]; split <;> simp

theorem runL_pos (ys : List Slot) (s : ByteArray) (t : Int) : 0 < (runL ys s t).length := by
  rcases list_cases ys with e | ⟨zs, y, e⟩
  · rw [e, runL_nil]; simp
  · rw [e, runL_concat]; split <;> simp

set_option maxHeartbeats 8000000 in
set_option maxRecDepth 100000 in
theorem flatten_any (major lp lc : Int) (needs : Bool) (A : Option Addr) (cap0 : Nat) (xs : List Need) (w : World) (hm0 : 0 ≤ major) (hm1 : major ≤ 18446744073709551615) (hx : xs.length ≤ 1099511627776) (hr : RunsAt w A xs) (hok : ∀ x, x ∈ xs → x.ok) :
    Calls Try.prog 12 #[.int .u64 major, laneV lp lc needs A xs.length cap0] w (FlatPost major xs needs w) := by
  obtain ⟨M, rfl⟩ := Int.eq_ofNat_of_zero_le hm0
  by_cases hlow : (M : Int) < 1
  · have H1 := hide (show flatL (M : Int) xs needs = ([], -1, 92) from by unfold flatL; rw [if_pos (.inl hlow)])
    go_enter Try.func12, Try.ntmps12
    go_wp2_with fail
    go_ret3
    exact FlatPost.none H1.out rfl ((Below.refl _ _).alloc (Nat.le_refl _) _)
  by_cases hhigh : 65536 < (M : Int)
  · have H1 := hide (show flatL (M : Int) xs needs = ([], -1, 92) from by unfold flatL; rw [if_pos (.inr hhigh)])
    go_enter Try.func12, Try.ntmps12
    go_wp2_with fail
    go_ret3
    exact FlatPost.none H1.out rfl ((Below.refl _ _).alloc (Nat.le_refl _) _)
  have HF := hide (show flatL (M : Int) xs needs = flatE (M : Int) xs needs (checkL (M : Int) needs xs 0 0) from by unfold flatL; rw [if_neg (by omega)])
  have HR := hide hr
  have HO := hide hok
  clear hr hok
  have hN : ∀ W, Below (w.heap.size + 1) (w.alloc (.cells #[.int .i64 lp, .int .u64 lc, .bool needs, .slice A xs.length cap0] 31)) W → Below w.heap.size w W ∧ W.cell? ⟨w.heap.size, 2, none⟩ = some (.bool needs) ∧ W.cell? ⟨w.heap.size, 3, none⟩ = some (.slice A xs.length cap0) := fun W hW => by
    have r0 := Row.alloc_new w #[.int .i64 lp, .int .u64 lc, .bool needs, .slice A xs.length cap0] 31
    refine ⟨((Below.refl _ w).alloc (Nat.le_refl _) _).trans (hW.mono (by omega)), ?_, ?_⟩
    · rw [hW.cell (p := ⟨w.heap.size, 2, none⟩) (by simp)]; exact r0.cell rfl
    · rw [hW.cell (p := ⟨w.heap.size, 3, none⟩) (by simp)]; exact r0.cell rfl
  have HN := hide hN
  clear hN
  go_enter Try.func12, Try.ntmps12
  go_wp2_with fail
  have HB0 := hide (Below.refl (w.heap.size + 1) (w.alloc (.cells #[.int .i64 lp, .int .u64 lc, .bool needs, .slice A xs.length cap0] 31)))
  generalize hW1 : w.alloc (.cells #[.int .i64 lp, .int .u64 lc, .bool needs, .slice A xs.length cap0] 31) = W1 at HN HB0 ⊢
  have hs1 : W1.heap.size = w.heap.size + 1 := by rw [← hW1]; simp
  have HW1 := hide hW1
  have Hs1 := hide hs1
  clear hW1 hs1
  generalize hn : w.heap.size = N at *
  have Hn := hide hn
  clear hn
  go_loopw [7, 24] (fun v7 v24 wr => ∃ (k : Nat) (s : Int), v7 = .int .u64 s ∧ v24 = .int .i64 k ∧ k ≤ xs.length ∧ 0 ≤ s ∧ s ≤ (M : Int) ∧ Hid (checkL (M : Int) needs (xs.drop k) k s = checkL (M : Int) needs xs 0 0) ∧ Hid (Below (N + 1) W1 wr)) (fun _ v _ => xs.length - (intOf v).toNat)
  case atStart => exact ⟨0, 0, rfl, rfl, Nat.zero_le _, by omega, by omega, hide rfl, HB0⟩
  case round =>
    obtain ⟨k, s, rfl, rfl, hk, hs0, hs1, HC, HB⟩ := hrel
    by_cases hlt : k < xs.length
    · obtain ⟨b, off, hA, n0, n1, n2, n3⟩ := HR.out k hlt
      subst hA
      obtain ⟨x, hx⟩ : ∃ x, x = xs[k] := ⟨_, rfl⟩
      rw [← hx] at n0 n1 n2 n3
      have hdr : xs.drop k = x :: xs.drop (k + 1) := by rw [hx]; exact List.drop_eq_getElem_cons hlt
      have hbl := (HN.out wr HB.out).1
      have hbb : b < w.heap.size := World.block_lt_of_cell? w _ n0
      rw [← Hn.out] at hbl
      replace n0 := (hbl.cell (p := ⟨b, off + k * 4, none⟩) hbb).trans n0
      replace n1 := (hbl.cell (p := ⟨b, off + k * 4 + 1, none⟩) hbb).trans n1
      replace n2 := (hbl.cell (p := ⟨b, off + k * 4 + 2, none⟩) hbb).trans n2
      replace n3 := (hbl.cell (p := ⟨b, off + k * 4 + 3, none⟩) hbb).trans n3
      have hxo : x.ok := HO.out x (hx ▸ List.getElem_mem hlt)
      have cN := (HN.out wr HB.out).2.1
      have lN : N < wr.heap.size := World.block_lt_of_cell? wr _ cN
      have hcheck := HC.out
      rw [hdr] at hcheck
      have Hchk := hide hcheck
      obtain ⟨r, hwr⟩ : ∃ r, r = wrongC (M : Int) x needs := ⟨_, rfl⟩
      have Hri : Hid (∀ W, Calls Try.prog 35 #[.int .u64 (M : Int), .agg #[.int .i64 x.pos, .string x.subj, .int .u64 x.budget, .int .u64 x.period], .bool needs] W fun e w' =>
          e = .returned (.int .i64 r) ∧ Below W.heap.size W w') := hide (fun W => by rw [hwr]; exact right_any (M : Int) x needs W (by omega) (by omega) hxo)
      have r2 := Row.alloc_new wr #[.int .i64 x.pos, .string x.subj, .int .u64 x.budget, .int .u64 x.period] 28
      have HR2 := hide r2
      have Hxo := hide hxo
      have Hx := hide hx
      clear hbl hbb hdr hcheck hxo hx r2
      by_cases hw0 : r = 0
      · subst hw0
        have hri := right_in Hxo.out hwr.symm
        obtain ⟨q, hq⟩ : ∃ q, q = wantsC (M : Int) x needs := ⟨_, rfl⟩
        have hq1 : q ≤ 4294967296 := by rw [hq]; exact wants_le (by omega) hri
        have hq0 : 1 ≤ q := by rw [hq]; exact wants_pos hri
        have Hwi : Hid (∀ W, Calls Try.prog 36 #[.int .u64 (M : Int), .agg #[.int .i64 x.pos, .string x.subj, .int .u64 x.budget, .int .u64 x.period], .bool needs] W fun e w' =>
            e = .returned (.int .u64 q) ∧ Below W.heap.size W w') := hide (fun W => by rw [hq]; exact wants_any (M : Int) x needs W (by omega) (by omega) Hxo.out hri)
        have Hwr := hide hwr
        have Hq := hide hq
        clear hwr hq hri
        go_wp2_with fail
        refine (Hri.out _).mono ?_
        rintro e w2 ⟨rfl, hb2⟩
        have m0 : w2.cell? ⟨wr.heap.size, 0, none⟩ = some (.int .i64 x.pos) := (hb2.cell (p := ⟨wr.heap.size, 0, none⟩) (by simp)).trans (HR2.out.cell rfl)
        have m1 : w2.cell? ⟨wr.heap.size, 1, none⟩ = some (.string x.subj) := (hb2.cell (p := ⟨wr.heap.size, 1, none⟩) (by simp)).trans (HR2.out.cell rfl)
        have m2 : w2.cell? ⟨wr.heap.size, 2, none⟩ = some (.int .u64 x.budget) := (hb2.cell (p := ⟨wr.heap.size, 2, none⟩) (by simp)).trans (HR2.out.cell rfl)
        have m3 : w2.cell? ⟨wr.heap.size, 3, none⟩ = some (.int .u64 x.period) := (hb2.cell (p := ⟨wr.heap.size, 3, none⟩) (by simp)).trans (HR2.out.cell rfl)
        have HB2 : Hid (Below (N + 1) W1 w2) := hide ((HB.out.trans ((Below.refl _ wr).alloc (by omega) _)).trans (hb2.mono (by simp; omega)))
        have cN2 := (HN.out w2 HB2.out).2.1
        clear hb2 cN lN n0 n1 n2 n3
        by_cases hgt : (M : Int) < s + q
        · go_wp2_with fail
          refine (Hwi.out _).mono ?_
          rintro e w3 ⟨rfl, hb3⟩
          have HB3 : Hid (Below (N + 1) W1 w3) := hide (HB2.out.trans (hb3.mono (by have := HB2.out.size; rw [Hs1.out] at this; omega)))
          clear hb3 m0 m1 m2 m3 cN2
          go_wp2_with fail
          go_ret3
          refine FlatPost.none (i := (k : Int)) (r := 93) ?_ rfl (by rw [Hn.out]; exact (HN.out w3 HB3.out).1)
          rw [HF.out, ← Hchk.out, checkL, if_neg (by rw [← Hwr.out]; simp), ← Hq.out, if_pos hgt]; rfl
        · go_wp2_with fail
          refine (Hwi.out _).mono ?_
          rintro e w3 ⟨rfl, hb3⟩
          have HB3 : Hid (Below (N + 1) W1 w3) := hide (HB2.out.trans (hb3.mono (by have := HB2.out.size; rw [Hs1.out] at this; omega)))
          clear hb3 m0 m1 m2 m3 cN2
          go_wp2_with fail
          go_roundw
          case rel =>
            refine ⟨k + 1, s + q, rfl, by go_num, by omega, by omega, by omega, hide ?_, HB3⟩
            rw [← Hchk.out, checkL, if_neg (by rw [← Hwr.out]; simp), ← Hq.out, if_neg (by omega)]; rfl
          case measure => simp [intOf]; omega
      · have hne : (r == 0) = false := beq_eq_false_iff_ne.2 hw0
        have Hwr := hide hwr
        clear hwr
        go_wp2_with fail
        refine (Hri.out _).mono ?_
        rintro e w2 ⟨rfl, hb2⟩
        have HB2 : Hid (Below (N + 1) W1 w2) := hide ((HB.out.trans ((Below.refl _ wr).alloc (by omega) _)).trans (hb2.mono (by simp; omega)))
        clear hb2
        go_wp2_with fail
        go_ret3
        refine FlatPost.none (i := (k : Int)) (r := r) ?_ rfl (by rw [Hn.out]; exact (HN.out w2 HB2.out).1)
        rw [HF.out, ← Hchk.out, checkL, if_pos (by rw [← Hwr.out]; exact hw0), ← Hwr.out]; rfl
    · obtain rfl : k = xs.length := by omega
      have hc := HC.out
      rw [List.drop_length] at hc
      simp only [checkL] at hc
      have hok2 := check_ok hc.symm
      have HC := hide hc
      clear hc
      have hbl := (HN.out wr HB.out).1
      have cN := (HN.out wr HB.out).2.1
      have cA := (HN.out wr HB.out).2.2
      have lN : N < wr.heap.size := World.block_lt_of_cell? wr _ cN
      cases needs with
      | true =>
        have HFit : Hid (Fit xs M) := hide (by have := fit_of_check (by omega) (by omega) HO.out HC.out.symm; simpa using this)
        have ht : 0 < M := by omega
        have hxl : xs.length ≤ 65536 := HFit.out.len
        have hend : ∀ W, RunsAt W A xs → Calls Try.prog 37 #[.int .i64 (M : Int), .slice A xs.length cap0] W (EarlPost (edf HFit.out) W) := fun W hW =>
          earliest_any A cap0 xs (M : Int) (edf HFit.out) W (by omega) (by omega) HFit.out.len hW (fun x hx => by
            have h1 := right_in (HO.out x hx) (hok2.2.1 x hx)
            have h2 := h1.per rfl
            have := h1.pos
            exact ⟨by omega, by omega, by omega, by omega⟩)
        have Hend := hide hend
        have HRr := hide (HR.out.below (by rw [Hn.out]; exact hbl))
        have Hok2 := hide hok2
        have Hbl := hide hbl
        clear hend hok2 hbl
        go_wp2_with fail
        refine (Hend.out _ (HRr.out.below ((Below.refl _ wr).alloc (Nat.le_refl _) _))).mono ?_
        rintro e w2 ⟨st, v, hG, hnow, rfl, hv, hb2⟩
        have hrow := edf_end HFit.out hG hnow
        rw [hrow] at hv
        have hpos := rowOf_pos (whoF xs) M ht
        rcases hv with ⟨_, he⟩ | ⟨g, cap, cur, rfl, hg, hsr, h0⟩
        · rw [he] at hpos; simp at hpos
        have lle := length_rowOf (whoF xs) M
        have Hee := hide (endL_rowOf (whoF xs) M)
        generalize hys : rowOf (whoF xs) M = ys at *
        have Hys := hide hys
        have hsz : wr.heap.size + 1 ≤ g := by simpa using hg
        have r2 : Row w2 wr.heap.size 74 #[.slice none 0 0] := (hb2.block _ (by simp)).trans (Row.alloc_new wr _ _)
        have c2 := r2.cell (o := 0) rfl
        have fz := r2.frozen 0
        have HB2 : Hid (Below N w w2) := hide ((Hbl.out.alloc (by omega) _).trans (hb2.mono (by simp; omega)))
        have HS := hide hsr
        have HR2 := hide r2
        clear hG hnow hrow hpos hg hb2 hsr r2 hys
        have HW3 : Hid (WAt (w2.setCell ⟨wr.heap.size, 0, none⟩ (.slice (some ⟨g, 0, none⟩) ys.length cap)) wr.heap.size (some g) ys) := hide ⟨h0, cap, cur, HR2.out.setCell 0 _, ⟨HS.out.1.setCell_ne (by simp; omega) _, HS.out.2⟩, by omega⟩
        have HB3 : Hid (Below N w (w2.setCell ⟨wr.heap.size, 0, none⟩ (.slice (some ⟨g, 0, none⟩) ys.length cap))) := hide (HB2.out.setCell (by simp; omega) _)
        have Hen := hide (end_any (w2.setCell ⟨wr.heap.size, 0, none⟩ (.slice (some ⟨g, 0, none⟩) ys.length cap)) g ys cap cur ⟨HS.out.1.setCell_ne (by simp; omega) _, HS.out.2⟩ h0 (by omega))
        clear cN cA
        go_wp2_with fail
        refine Hen.out.mono ?_
        rintro e w3 ⟨rfl, rfl⟩
        rw [Hee.out]
        obtain ⟨f0, fcap, fcur, fr1, fr2, fr3⟩ := HW3.out
        have fc := fr1.cell (o := 0) rfl
        have Hf2 := hide fr2
        have fg : N ≤ g := by omega
        have Hrow := hide (show flatRow (M : Int) xs true = ys from by unfold flatRow fillRow; simp only [if_true, Int.toNat_natCast]; rw [Hys.out, Hee.out, if_neg (by omega)])
        clear fr1 fr2 fr3
        by_cases hbig : 4096 < (ys).length
        · go_wp2_with fail
          go_ret3
          refine FlatPost.none (i := -1) (r := 4) ?_ rfl (by rw [Hn.out]; exact HB3.out)
          rw [HF.out, ← HC.out, flatE, Hrow.out, if_pos hbig]
        · have hbig2 : (ys).length ≤ 4096 := by omega
          go_wp2_with fail
          go_ret3
          have hfl : flatL (M : Int) xs true = (ys, 0, 0) := by rw [HF.out, ← HC.out, flatE, Hrow.out, if_neg hbig]
          refine ⟨_, by rw [hfl]; rfl, .inr ⟨g, fcap, fcur, ?_, by rw [Hn.out]; exact fg, ?_, ?_⟩, by rw [Hn.out]; exact HB3.out⟩
          · rw [hfl]; rfl
          · rw [hfl]; exact Hf2.out
          · rw [hfl]; exact f0
      | false =>
        have hrun : ∀ x, x ∈ xs → RightIn (M : Int) x false := fun x hx => right_in (HO.out x hx) (hok2.2.1 x hx)
        have hsum : ∀ k, k ≤ xs.length → endL (runsRow (xs.take k)) = sumW (M : Int) false (xs.take k) ∧ 0 ≤ endL (runsRow (xs.take k)) ∧ endL (runsRow (xs.take k)) ≤ M ∧ (runsRow (xs.take k)).length ≤ k := fun k hk => by
          have h1 := endL_runsRow (M : Int) (xs.take k)
          have h2 := length_runsRow (xs.take k)
          have h3 := sumW_append (major := (M : Int)) (needs := false) (xs.take k) (xs.drop k)
          rw [List.take_append_drop] at h3
          have h4 := sumW_nonneg (major := (M : Int)) (needs := false) (xs := xs.drop k) fun x hx => by have := wants_pos (hrun x (List.mem_of_mem_drop hx)); omega
          have h5 := sumW_nonneg (major := (M : Int)) (needs := false) (xs := xs.take k) fun x hx => by have := wants_pos (hrun x (List.mem_of_mem_take hx)); omega
          have h6 := hok2.1
          have h7 := hok2.2.2 (by omega)
          rw [List.length_take] at h2
          exact ⟨h1, by omega, by omega, by omega⟩
        have Hrun := hide hrun
        have Hsum := hide hsum
        have Hbl := hide hbl
        have hpw := Row.alloc_new wr #[.slice none 0 0] 74
        have HW0 : Hid (WAt (wr.alloc (.cells #[.slice none 0 0] 74)) wr.heap.size none (runsRow (xs.take 0))) := hide ⟨rfl, hpw⟩
        have HBl0 : Hid (Below N w (wr.alloc (.cells #[.slice none 0 0] 74))) := hide (hbl.alloc (by omega) _)
        clear hrun hsum hbl hpw hok2
        go_wp2_with fail
        generalize hpwn : wr.heap.size = pw at *
        generalize wr.alloc (.cells #[.slice none 0 0] 74) = W2 at *
        go_loopw [60] (fun v60 w2 => ∃ (k2 : Nat) (o : Option Nat), v60 = .int .i64 k2 ∧ k2 ≤ xs.length ∧ Hid (WAt w2 pw o (runsRow (xs.take k2))) ∧ Hid (Below N w w2) ∧ Hid (∀ g, o = some g → N ≤ g)) (fun v _ => xs.length - (intOf v).toNat)
        case atStart => exact ⟨0, none, rfl, Nat.zero_le _, HW0, HBl0, hide (fun g e => by cases e)⟩
        case round =>
          clear HW0 HBl0 cN cA
          obtain ⟨k2, o, rfl, hk2, HW, HBl, Ho⟩ := hrel
          by_cases hlt2 : k2 < xs.length
          · obtain ⟨b, off, hA, n0, n1, n2, n3⟩ := HR.out k2 hlt2
            subst hA
            obtain ⟨x, hx⟩ : ∃ x, x = xs[k2] := ⟨_, rfl⟩
            rw [← hx] at n0 n1 n2 n3
            have hbb : b < N := by rw [← Hn.out]; exact World.block_lt_of_cell? w _ n0
            replace n0 := (HBl.out.cell (p := ⟨b, off + k2 * 4, none⟩) hbb).trans n0
            replace n1 := (HBl.out.cell (p := ⟨b, off + k2 * 4 + 1, none⟩) hbb).trans n1
            replace n2 := (HBl.out.cell (p := ⟨b, off + k2 * 4 + 2, none⟩) hbb).trans n2
            replace n3 := (HBl.out.cell (p := ⟨b, off + k2 * 4 + 3, none⟩) hbb).trans n3
            have hxr := Hrun.out x (hx ▸ List.getElem_mem hlt2)
            have x1 := hxr.le
            have x2 := hxr.pos
            have hnext : runsRow (xs.take (k2 + 1)) = runL (runsRow (xs.take k2)) x.subj x.budget := by
              rw [List.take_succ_eq_append_getElem hlt2, runsRow_snoc, ← hx]
            have Hnext := hide hnext
            have Hs := Hsum.out k2 hk2
            have Hru : Hid (∀ W, Upd (fun _ => False) wr W → Calls Try.prog 38 #[.pointer (some ⟨pw, 0, none⟩), .string x.subj, .int .i64 x.budget] W (RunPost pw o (runL (runsRow (xs.take k2)) x.subj x.budget) W)) :=
              hide (fun W hu => run_any pw o _ x.subj x.budget W (HW.out.upd hu (fun h => h) (fun _ _ h => h)) (by omega) (by omega) (by omega) Hs.2.1 (by omega))
            have hlw : N ≤ wr.heap.size := by have := HBl.out.size; have h2 : w.heap.size = N := Hn.out; omega
            have Hs' := hide Hs
            clear Hs hxr hx hnext hbb
            go_wp2_with fail
            refine (Hru.out _ (by exact Upd.alloc _ _)).mono ?_
            rintro e w4 ⟨rfl, o4, W4, U4, F4⟩
            have hUp : Below N (wr.alloc (.cells #[.int .i64 x.pos, .string x.subj, .int .u64 x.budget, .int .u64 x.period] 28)) w4 := U4.below (fun b hb => by
              rcases hb with e | e
              · rw [e]; omega
              · exact Ho.out b e.symm) (by simp; omega)
            have HB4 : Hid (Below N w w4) := hide ((HBl.out.alloc hlw _).trans hUp)
            have Ho4 : Hid (∀ g, o4 = some g → N ≤ g) := hide (fun g hg => by
              rcases F4 with e | ⟨g', e, hl⟩
              · exact Ho.out g (by rw [← e]; exact hg)
              · rw [e] at hg; cases hg
                have : wr.heap.size + 1 ≤ g := by simpa using hl
                omega)
            have HW4 : Hid (WAt w4 pw o4 (runsRow (xs.take (k2 + 1)))) := hide (by rw [Hnext.out]; exact W4)
            clear hUp W4 U4 F4
            go_wp2_with fail
            go_roundw
            case rel => exact ⟨k2 + 1, o4, by go_num, by omega, HW4, HB4, Ho4⟩
            case measure => simp [intOf]; omega
          · obtain rfl : k2 = xs.length := by omega
            obtain ⟨e1, e2, e3, e4⟩ := Hsum.out xs.length (Nat.le_refl _)
            rw [List.take_length] at e1 e2 e3 e4
            have hW := HW.out
            rw [List.take_length] at hW
            clear e1
            generalize hys : runsRow xs = ys at *
            have Hys := hide hys
            have hlw : N ≤ wr.heap.size := by have := HBl.out.size; have h2 : w.heap.size = N := Hn.out; omega
            cases o with
            | none =>
              have hnil : ys = [] := hW.1
              have hc := hW.2.cell (o := 0) rfl
              have He0 : Hid (endL ys = 0) := hide (by rw [hnil]; rfl)
              have Hr2 := hide (run_any pw none ys ⟨#[]⟩ (M : Int) wr hW (by omega) (by omega) (by omega) e2 (by omega))
              have Hnil := hide hnil
              clear hW hnil HW hys
              go_wp2_with fail
              refine (end_none _).mono ?_
              rintro e w3 ⟨rfl, rfl⟩
              go_wp2_with fail
              refine Hr2.out.mono ?_
              rintro e w4 ⟨rfl, o4, W4, U4, F4⟩
              have HB4 : Hid (Below N w w4) := hide (HBl.out.trans (U4.below (fun b hb => by
                rcases hb with e | e
                · rw [e]; omega
                · exact Ho.out b e.symm) hlw))
              cases o4 with
              | none => exact absurd W4.1 (fun e => by have := runL_pos ys ⟨#[]⟩ ((M : Int)); rw [e] at this; simp at this)
              | some g4 =>
                have hg4 : N ≤ g4 := by
                  rcases F4 with e | ⟨g', e, hl⟩
                  · exact Ho.out g4 e.symm
                  · cases e; omega
                have HW4 := hide W4
                have Hrr := hide (show runL ys ⟨#[]⟩ ((M : Int)) = runL ys ⟨#[]⟩ ((M : Int)) from rfl)
                generalize hzs : runL ys ⟨#[]⟩ ((M : Int)) = zs at *
                have Hzs := hide hzs
                clear W4 U4 F4 hzs Hrr Hr2 hc
                obtain ⟨f0, fcap, fcur, fr1, fr2, fr3⟩ := HW4.out
                have fc := fr1.cell (o := 0) rfl
                have Hf2 := hide fr2
                have fg : N ≤ g4 := by omega
                have Hrow := hide (show flatRow (M : Int) xs false = zs from by unfold flatRow fillRow; simp only [Bool.false_eq_true, if_false]; rw [Hys.out, He0.out, if_pos (by omega), Int.sub_zero]; exact Hzs.out)
                clear fr1 fr2 fr3
                by_cases hbig : 4096 < (zs).length
                · go_wp2_with fail
                  go_ret3
                  refine FlatPost.none (i := -1) (r := 4) ?_ rfl (by rw [Hn.out]; exact HB4.out)
                  rw [HF.out, ← HC.out, flatE, Hrow.out, if_pos hbig]
                · have hbig2 : (zs).length ≤ 4096 := by omega
                  go_wp2_with fail
                  go_ret3
                  have hfl : flatL (M : Int) xs false = (zs, 0, 0) := by rw [HF.out, ← HC.out, flatE, Hrow.out, if_neg hbig]
                  refine ⟨_, by rw [hfl]; rfl, .inr ⟨g4, fcap, fcur, ?_, by rw [Hn.out]; exact fg, ?_, ?_⟩, by rw [Hn.out]; exact HB4.out⟩
                  · rw [hfl]; rfl
                  · rw [hfl]; exact Hf2.out
                  · rw [hfl]; exact f0
            | some g =>
              obtain ⟨h0, cap, cur, q1, q2, q3⟩ := hW
              have hc := q1.cell (o := 0) rfl
              have Hen := hide (end_any wr g ys cap cur q2 h0 (by omega))
              have HWs : Hid (WAt wr pw (some g) ys) := hide ⟨h0, cap, cur, q1, q2, q3⟩
              clear q1 q2 q3 HW hys
              by_cases hfill : endL ys < (M : Int)
              · have Hr2 := hide (run_any pw (some g) ys ⟨#[]⟩ ((M : Int) - endL ys) wr HWs.out (by omega) (by omega) (by omega) e2 (by omega))
                obtain ⟨en, hen⟩ : ∃ en, en = endL ys := ⟨_, rfl⟩
                rw [← hen] at hfill e2 e3 Hr2 Hen
                have Hen2 := hide hen
                clear hen
                go_wp2_with fail
                refine Hen.out.mono ?_
                rintro e w3 ⟨rfl, rfl⟩
                go_wp2_with fail
                refine Hr2.out.mono ?_
                rintro e w4 ⟨rfl, o4, W4, U4, F4⟩
                have HB4 : Hid (Below N w w4) := hide (HBl.out.trans (U4.below (fun b hb => by
                  rcases hb with e | e
                  · rw [e]; omega
                  · exact Ho.out b e.symm) hlw))
                cases o4 with
                | none => exact absurd W4.1 (fun e => by have := runL_pos ys ⟨#[]⟩ ((M : Int) - en); rw [e] at this; simp at this)
                | some g4 =>
                  have hg4 : N ≤ g4 := by
                    rcases F4 with e | ⟨g', e, hl⟩
                    · exact Ho.out g4 e.symm
                    · cases e; omega
                  have HW4 := hide W4
                  have Hrr := hide (show runL ys ⟨#[]⟩ ((M : Int) - en) = runL ys ⟨#[]⟩ ((M : Int) - en) from rfl)
                  generalize hzs : runL ys ⟨#[]⟩ ((M : Int) - en) = zs at *
                  have Hzs := hide hzs
                  clear W4 U4 F4 hzs Hrr Hr2 hc
                  obtain ⟨f0, fcap, fcur, fr1, fr2, fr3⟩ := HW4.out
                  have fc := fr1.cell (o := 0) rfl
                  have Hf2 := hide fr2
                  have fg : N ≤ g4 := by omega
                  have Hrow := hide (show flatRow (M : Int) xs false = zs from by unfold flatRow fillRow; simp only [Bool.false_eq_true, if_false]; rw [Hys.out, ← Hen2.out, if_pos (by omega)]; exact Hzs.out)
                  clear fr1 fr2 fr3
                  by_cases hbig : 4096 < (zs).length
                  · go_wp2_with fail
                    go_ret3
                    refine FlatPost.none (i := -1) (r := 4) ?_ rfl (by rw [Hn.out]; exact HB4.out)
                    rw [HF.out, ← HC.out, flatE, Hrow.out, if_pos hbig]
                  · have hbig2 : (zs).length ≤ 4096 := by omega
                    go_wp2_with fail
                    go_ret3
                    have hfl : flatL (M : Int) xs false = (zs, 0, 0) := by rw [HF.out, ← HC.out, flatE, Hrow.out, if_neg hbig]
                    refine ⟨_, by rw [hfl]; rfl, .inr ⟨g4, fcap, fcur, ?_, by rw [Hn.out]; exact fg, ?_, ?_⟩, by rw [Hn.out]; exact HB4.out⟩
                    · rw [hfl]; rfl
                    · rw [hfl]; exact Hf2.out
                    · rw [hfl]; exact f0
              · obtain ⟨en, hen⟩ : ∃ en, en = endL ys := ⟨_, rfl⟩
                rw [← hen] at hfill e2 e3 Hen
                have Hen2 := hide hen
                clear hen
                go_wp2_with fail
                refine Hen.out.mono ?_
                rintro e w3 ⟨rfl, rfl⟩
                clear hc
                obtain ⟨f0, fcap, fcur, fr1, fr2, fr3⟩ := HWs.out
                have fc := fr1.cell (o := 0) rfl
                have Hf2 := hide fr2
                have fg : N ≤ g := Ho.out g rfl
                have Hrow := hide (show flatRow (M : Int) xs false = ys from by unfold flatRow fillRow; simp only [Bool.false_eq_true, if_false]; rw [Hys.out, ← Hen2.out, if_neg (by omega)])
                clear fr1 fr2 fr3
                by_cases hbig : 4096 < (ys).length
                · go_wp2_with fail
                  go_ret3
                  refine FlatPost.none (i := -1) (r := 4) ?_ rfl (by rw [Hn.out]; exact HBl.out)
                  rw [HF.out, ← HC.out, flatE, Hrow.out, if_pos hbig]
                · have hbig2 : (ys).length ≤ 4096 := by omega
                  go_wp2_with fail
                  go_ret3
                  have hfl : flatL (M : Int) xs false = (ys, 0, 0) := by rw [HF.out, ← HC.out, flatE, Hrow.out, if_neg hbig]
                  refine ⟨_, by rw [hfl]; rfl, .inr ⟨g, fcap, fcur, ?_, by rw [Hn.out]; exact fg, ?_, ?_⟩, by rw [Hn.out]; exact HBl.out⟩
                  · rw [hfl]; rfl
                  · rw [hfl]; exact Hf2.out
                  · rw [hfl]; exact f0
end LA
end Go.Proofs.Ytenfikfgliljmaa
