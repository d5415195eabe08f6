/- bulkheadlaw9.LanesBest returns true. -/
import Derived.Test.YtenfikfgliljmaaKF
import Derived.Test.YtenfikfgliljmaaNM
import Derived.Test.YtenfikfgliljmaaMC
import Derived.Test.YtenfikfgliljmaaPB
import Derived.Deep.QuietTactic
import Derived.BigQuiet
namespace Go.Proofs.Ytenfikfgliljmaa
open Go.RowKit
open Go.Proofs.Ytenfikfgliljmaa.LT (cw Seen)
namespace LA
theorem info26 : (Try.prog.info? 26).map (fun i => (i.zero, i.size, i.bytes)) = some (some (.int .u64 0), 1, 8) := by kernel_rfl
theorem und53 : Try.prog.underlying 53 = some (.slice 26) := by kernel_rfl
/-- The memory of the laws over needs of names of their own. -/
structure BsAt (w W : World) (A1 : Option Addr) (ys : List Need) (c1 : Nat) (A2 : Option Addr) (ws : List Int) : Prop where
  row : Row W w.heap.size 31 #[.int .i64 0, .int .u64 0, .bool true, .slice A1 ys.length c1]
  runs : RunsAt W A1 ys
  ints : IntsAt W A2 ws
  bel : Below w.heap.size w W
  sz : w.heap.size + 1 ≤ W.heap.size
section
variable {w W W' : World} {A1 A2 : Option Addr} {ys : List Need} {c1 : Nat} {ws : List Int}
theorem BsAt.on (h : BsAt w W A1 ys c1 A2 ws) (hb : Below W.heap.size W W') : BsAt w W' A1 ys c1 A2 ws :=
  ⟨(hb.block _ (by have := h.sz; omega)).trans h.row, h.runs.below hb, h.ints.below hb, h.bel.trans (hb.mono (by have := h.sz; omega)), by have := h.sz; have := hb.size; omega⟩
theorem BsAt.drewN (h : BsAt w W A1 ys c1 A2 ws) (k : Nat) : BsAt w (W.drewN k) A1 ys c1 A2 ws := h.on ⟨rfl, rfl, rfl, Nat.le_refl _, fun _ _ => rfl⟩
end
/-- The counts, where the needs up to i are looked at. -/
def cwI (P : Nat → Nat) (h : Nat → Nat → Bool) (t i j : Nat) : Nat := if j < i then cw P h (t + 1) j else cw P h t j + (if h t j = true then 1 else 0)
theorem cwI_set {P : Nat → Nat} {h : Nat → Nat → Bool} {t i : Nat} (e : (t + 1) % P i = 0) : cwI P h t (i + 1) i = 0 := by
  unfold cwI; rw [if_pos (by omega), cw, if_pos e]
theorem cwI_other {P : Nat → Nat} {h : Nat → Nat → Bool} {t i j : Nat} (e : j ≠ i) : cwI P h t (i + 1) j = cwI P h t i j := by
  unfold cwI
  by_cases e2 : j < i
  · rw [if_pos (by omega), if_pos e2]
  · rw [if_neg (by omega), if_neg e2]
theorem cwI_keep {P : Nat → Nat} {h : Nat → Nat → Bool} {t i : Nat} (e : (t + 1) % P i ≠ 0) (j : Nat) : cwI P h t (i + 1) j = cwI P h t i j := by
  by_cases e1 : j = i
  · subst e1; unfold cwI; rw [if_pos (by omega), if_neg (by omega), cw, if_neg e]
  · exact cwI_other e1
theorem cw_le {P : Nat → Nat} {h : Nat → Nat → Bool} (j : Nat) : ∀ t, cw P h t j ≤ t
  | 0 => Nat.le_refl _
  | t + 1 => by
    have := cw_le (P := P) (h := h) j t
    rw [cw]; split
    · omega
    · split <;> omega
theorem hit_eq {ws : List Int} {t i j : Nat} (h1 : decide (ws.getD t (-1) = (i : Int)) = true) (h2 : decide (ws.getD t (-1) = (j : Int)) = true) : i = j := by
  have a := of_decide_eq_true h1; have b := of_decide_eq_true h2; omega

set_option maxHeartbeats 6400000 in
set_option maxRecDepth 100000 in
theorem lanesBest_any (major lp lc : Int) (needs : Bool) (A A2 : Option Addr) (cap0 cap2 : Nat) (xs : List Need) (ws : List Int) (w : World) (hm0 : 0 ≤ major) (hm1 : major ≤ 18446744073709551615) (hn : xs.length ≤ 3518437208780) (hwl : ws.length ≤ 9223372036854775807) (hr : RunsAt w A xs) (hi : IntsAt w A2 ws) (hok : ∀ x, x ∈ xs → x.ok) :
    Calls Try.prog 8 #[.int .u64 major, laneV lp lc needs A xs.length cap0, .slice A2 ws.length cap2] w (TruePost w) := by
  obtain ⟨M, rfl⟩ := Int.eq_ofNat_of_zero_le hm0
  have HNm := hide (fun W h => named_any lp lc needs A cap0 xs W hn h)
  have r0 := Row.alloc_new w #[.int .i64 lp, .int .u64 lc, .bool needs, .slice A xs.length cap0] 31
  have R0 := hide r0
  have HB0 := hide ((Below.refl w.heap.size w).alloc (Nat.le_refl _) (.cells #[.int .i64 lp, .int .u64 lc, .bool needs, .slice A xs.length cap0] 31))
  have HR1 := hide (hr.below HB0.out)
  have HI1 := hide (hi.below HB0.out)
  have HO := hide hok
  have HK := hide known_any
  have hA2 : ∀ b off, A2 = some ⟨b, off, none⟩ → 0 < ws.length → b < w.heap.size := fun b off e h0 => by
    obtain ⟨b', off', e', h1⟩ := hi 0 h0
    rw [e] at e'; cases e'
    exact World.block_lt_of_cell? w _ h1
  have HA2 := hide hA2
  clear hr r0 hok hi hA2
  go_enter Try.func8, Try.ntmps8
  go_wp2_with fail
  refine (HNm.out _ HR1.out).mono ?_
  rintro e w1 ⟨ys, A1, c1, rfl, hren, hr1, hb, hA1⟩
  have R1 : Hid (Row w1 w.heap.size 31 #[.int .i64 lp, .int .u64 lc, .bool needs, .slice A xs.length cap0]) := hide ((hb.block _ (by simp)).trans R0.out)
  have HB1 : Hid (Below w.heap.size w w1) := hide (HB0.out.trans (hb.mono (by simp)))
  have HI2 := hide (HI1.out.below hb)
  obtain ⟨⟨p0, p1, p2, p3⟩, ⟨f0, f1, f2, f3⟩, ⟨g1, k1⟩, ⟨g2, k2⟩, ⟨g3, k3⟩, Rb, hu⟩ := boxFacts R1.out (.int .i64 0) (.int .u64 0) (.bool true) (.slice A1 ys.length c1)
  have HX0 : Hid (BsAt w (boxW w1 w.heap.size (.int .i64 0) (.int .u64 0) (.bool true) (.slice A1 ys.length c1)) A1 ys c1 A2 ws) := hide
    ⟨Rb, hr1.upd hu (fun b off e h => by have := hA1 b off e; simp at this; omega), by
      by_cases h0 : 0 < ws.length
      · exact HI2.out.upd hu (fun b off e h => by have := HA2.out b off e h0; omega)
      · intro i h; omega, HB1.out.trans (hu.below (fun b e => by omega) HB1.out.size), by have := hu.size; have := R1.out.lt; omega⟩
  have q0 := Rb.cell (o := 0) rfl
  have q1 := Rb.cell (o := 1) rfl
  have q2 := Rb.cell (o := 2) rfl
  have q3 := Rb.cell (o := 3) rfl
  have hyl : ys.length ≤ 3518437208780 := by have := hren.1; omega
  have hyo : ∀ y, y ∈ ys → y.ok := fun y hy => by
    obtain ⟨i, h, rfl⟩ := List.mem_iff_getElem.1 hy
    obtain ⟨a, b, _⟩ := hren.2 i (by have := hren.1; omega) h
    have hix : i < xs.length := by have := hren.1; omega
    obtain ⟨o1, o2, o3, o4⟩ := HO.out xs[i] (List.getElem_mem hix)
    exact ⟨by omega, by omega, by omega, by omega⟩
  have hys : ∀ y, y ∈ ys → y.subj.toList ≠ [] := fun y hy => by
    obtain ⟨i, h, rfl⟩ := List.mem_iff_getElem.1 hy
    exact (hren.2 i (by have := hren.1; omega) h).2.2
  have HYo := hide hyo
  have HYs := hide hys
  have HGr := hide (fun W => great_any (M : Int) 0 0 true A1 ys.length c1 W (by omega) hm1 (by omega))
  clear hren hr1 hb hA1 Rb hu hyo hys
  go_wp2_with fail
  clear p0 p1 p2 p3 f0 f1 f2 f3 g1 k1 g2 k2 g3 k3 q0 q1 q2 q3
  unfold boxW at HX0
  generalize (((w1.setCell ⟨w.heap.size, 0, none⟩ (.int .i64 0)).setCell ⟨w.heap.size, 1, none⟩ (.int .u64 0)).setCell ⟨w.heap.size, 2, none⟩ (.bool true)).setCell ⟨w.heap.size, 3, none⟩ (.slice A1 ys.length c1) = w2 at HX0 ⊢
  refine (HGr.out w2).mono ?_
  rintro e w3 ⟨rfl, hb⟩
  have HX3 := hide (HX0.out.on hb)
  have c3 := HX3.out.row.cell (o := 3) rfl
  clear hb HX0
  cases hg : greatL (M : Int) ys.length true with
  | true =>
    go_wp2_with fail
    refine (HK.out _).mono ?_
    rintro e w9 ⟨rfl, hb9⟩
    have HB9 : Hid (Below w.heap.size w w9) := hide (HX3.out.bel.trans (hb9.mono (by have := HX3.out.sz; omega)))
    clear hb9
    go_wp2_with fail
    go_ret
    exact ⟨rfl, HB9.out⟩
  | false =>
    have hn5 : ys.length ≤ 5000 := by
      unfold greatL at hg
      simp at hg
      omega
    by_cases h1 : (M : Int) < 1
    · skip
      go_wp2_with fail
      refine (HK.out _).mono ?_
      rintro e w9 ⟨rfl, hb9⟩
      have HB9 : Hid (Below w.heap.size w w9) := hide (HX3.out.bel.trans (hb9.mono (by have := HX3.out.sz; omega)))
      clear hb9
      go_wp2_with fail
      go_ret
      exact ⟨rfl, HB9.out⟩
    by_cases h2 : 65536 < (M : Int)
    · skip
      go_wp2_with fail
      refine (HK.out _).mono ?_
      rintro e w9 ⟨rfl, hb9⟩
      have HB9 : Hid (Below w.heap.size w w9) := hide (HX3.out.bel.trans (hb9.mono (by have := HX3.out.sz; omega)))
      clear hb9
      go_wp2_with fail
      go_ret
      exact ⟨rfl, HB9.out⟩
    by_cases h3 : 2000 < ys.length
    · skip
      go_wp2_with fail
      refine (HK.out _).mono ?_
      rintro e w9 ⟨rfl, hb9⟩
      have HB9 : Hid (Below w.heap.size w w9) := hide (HX3.out.bel.trans (hb9.mono (by have := HX3.out.sz; omega)))
      clear hb9
      go_wp2_with fail
      go_ret
      exact ⟨rfl, HB9.out⟩
    by_cases h4 : (ws.length : Int) < M
    · skip
      go_wp2_with fail
      refine (HK.out _).mono ?_
      rintro e w9 ⟨rfl, hb9⟩
      have HB9 : Hid (Below w.heap.size w w9) := hide (HX3.out.bel.trans (hb9.mono (by have := HX3.out.sz; omega)))
      clear hb9
      go_wp2_with fail
      go_ret
      exact ⟨rfl, HB9.out⟩
    clear hg
    obtain ⟨i0, hi, hz0, hz1, hz2⟩ := info_parts info26
    have Hi := hide hi; have Hz0 := hide hz0; have Hz1 := hide hz1; have Hz2 := hide hz2
    clear hi hz0 hz1 hz2
    go_wp2_with (at_make; refine wpList_make_full _ rfl _ _ 53 rfl w3.heap.size 26 i0 (.int .u64 0) 1 und53 Hi.out Hz0.out Hz1.out .i64 .i64 _ _ ys.length rfl rfl rfl rfl (by rw [Hz2.out]; omega) (by unfold maxLen; omega) (by omega) ?_; intro w4 hown4 hgrow4; have HU4 := hide (UAt.make hown4).2; have HL4 := hide ((Below.refl w3.heap.size w3).grown hgrow4 (Nat.le_refl _) (by simp)); clear hown4 hgrow4 c3)
    obtain ⟨h, hh⟩ : ∃ h : Nat → Nat → Bool, h = fun (t i : Nat) => decide (ws.getD t (-1) = (i : Int)) := ⟨_, rfl⟩
    have Hh := hide hh
    clear hh
    generalize hg3 : w3.heap.size = g at *
    have Hg3 := hide hg3
    clear hg3
    go_loopw [8] (fun v8 wr => ∃ t : Nat, v8 = .int .u64 t ∧ t ≤ M ∧ Hid (UAt wr g ys.length (cw (Pf ys) h t)) ∧ Hid (Below g w3 wr) ∧ Hid (∀ u, u < t → ∀ i, i < ys.length → Seen (Pf ys) (Bf ys) h M u i)) (fun v _ => M - (intOf v).toNat)
    case atStart => exact ⟨0, rfl, Nat.zero_le _, HU4, HL4, hide (fun u hu => absurd hu (Nat.not_lt_zero u))⟩
    case round =>
      obtain ⟨t, rfl, ht, HU, HL, HS⟩ := hrel
      have HX := hide (HX3.out.on (by rw [Hg3.out]; exact HL.out))
      have c3 := HX.out.row.cell (o := 3) rfl
      by_cases hlt : t < M
      · obtain ⟨b, off, hA, hcell⟩ := HX.out.ints t (by omega)
        subst hA
        obtain ⟨c, hc⟩ : ∃ c, c = ws[t] := ⟨_, rfl⟩
        rw [← hc] at hcell
        have Hht : Hid (∀ j : Nat, h t j = decide (c = (j : Int))) := hide (fun j => by rw [Hh.out]; show decide (ws.getD t (-1) = (j : Int)) = _; rw [show ws.getD t (-1) = c by rw [hc]; simp [List.getD, show t < ws.length by omega]])
        clear hc
        have HU1base := HU
        by_cases hc0 : 0 ≤ c ∧ c < (ys.length : Int)
        · obtain ⟨hc0, hc1⟩ := hc0
          obtain ⟨j, rfl⟩ := Int.eq_ofNat_of_zero_le hc0
          have uc := HU.out.cell j (by omega)
          have uf := HU.out.frozen j
          have hcw := cw_le (P := Pf ys) (h := h) j t
          obtain ⟨q, hq⟩ : ∃ q, q = cw (Pf ys) h t j := ⟨_, rfl⟩
          rw [← hq] at uc hcw
          have Hq := hide hq
          clear hq
          have HU1 : Hid (UAt (wr.setCell ⟨g, j, none⟩ (.int .u64 ((q : Int) + 1))) g ys.length (cwI (Pf ys) h t 0)) := hide (HU.out.set j _ (by omega) (by unfold cwI; rw [if_neg (by omega), Hht.out j, ← Hq.out]; simp) (fun i _ e => by unfold cwI; rw [if_neg (by omega), Hht.out i]; simp; omega))
          have HL1 : Hid (Below g w3 (wr.setCell ⟨g, j, none⟩ (.int .u64 ((q : Int) + 1)))) := hide (HL.out.setCell (Nat.le_refl _) _)
          go_wp2_with fail
          clear uc uf hcell c3
          generalize wr.setCell ⟨g, j, none⟩ (.int .u64 ((q : Int) + 1)) = wq at HU1 HL1 ⊢
          go_loopw [9] (fun v9 wr => ∃ i : Nat, v9 = .int .i64 i ∧ i ≤ ys.length ∧ Hid (UAt wr g ys.length (cwI (Pf ys) h t i)) ∧ Hid (Below g w3 wr) ∧ Hid (∀ j, j < i → Seen (Pf ys) (Bf ys) h M t j)) (fun v _ => ys.length - (intOf v).toNat)
          case atStart => exact ⟨0, rfl, Nat.zero_le _, HU1, HL1, hide (fun j hj => absurd hj (Nat.not_lt_zero j))⟩
          case round =>
            clear HU HL HU1 HL1 HX HU1base
            obtain ⟨i, rfl, hi', HU, HL, HSi⟩ := hrel
            have HX := hide (HX3.out.on (by rw [Hg3.out]; exact HL.out))
            have c3 := HX.out.row.cell (o := 3) rfl
            have hgw := HU.out.lt
            by_cases hi : i < ys.length
            · obtain ⟨b1, off1, hA1, n0, n1, n2, n3⟩ := HX.out.runs i hi
              subst hA1
              obtain ⟨x, hx⟩ : ∃ x, x = ys[i] := ⟨_, rfl⟩
              have hgd : ys.getD i .zero = x := by rw [hx]; simp [List.getD, hi]
              rw [← hx] at n0 n1 n2 n3
              obtain ⟨b0, b9, p0, p9⟩ := HYo.out x (hx ▸ List.getElem_mem hi)
              obtain ⟨p, hp⟩ := Int.eq_ofNat_of_zero_le p0
              obtain ⟨q, hq⟩ := Int.eq_ofNat_of_zero_le b0
              have HP := hide (show Pf ys i = p by unfold Pf; rw [hgd, hp]; simp)
              have HQ := hide (show Bf ys i = q by unfold Bf; rw [hgd, hq]; simp)
              rw [hq] at n2 b9
              rw [hp] at n3 p9
              have uc := HU.out.cell i hi
              obtain ⟨r, hr⟩ : ∃ r, r = cwI (Pf ys) h t i i := ⟨_, rfl⟩
              rw [← hr] at uc
              have Hr := hide (show r = cw (Pf ys) h t i + (if h t i = true then 1 else 0) by rw [hr]; unfold cwI; rw [if_neg (by omega)])
              have Hr2 := hide hr
              obtain ⟨pos, hpos⟩ : ∃ pos, pos = x.pos := ⟨_, rfl⟩
              obtain ⟨sj, hsj⟩ : ∃ sj, sj = x.subj := ⟨_, rfl⟩
              rw [← hpos] at n0
              rw [← hsj] at n1
              clear hx hgd hp hq hr b0 p0 hpos hsj
              have hba : Below wr.heap.size wr (wr.alloc (.cells #[.int .i64 pos, .string sj, .int .u64 q, .int .u64 p] 28)) := (Below.refl _ _).alloc (Nat.le_refl _) _
              have HXa := hide (HX.out.on hba)
              have HUa := hide (HU.out.below hba hgw)
              have HLa : Hid (Below g w3 (wr.alloc (.cells #[.int .i64 pos, .string sj, .int .u64 q, .int .u64 p] 28))) := hide (HL.out.alloc (by omega) _)
              have ua := HUa.out.cell i hi
              have uf := HUa.out.frozen i
              rw [← Hr2.out] at ua
              clear hba
              by_cases a1 : (p : Int) < 1
              · skip
                go_wp2_with fail
                refine (HK.out _).mono ?_
                rintro e w9 ⟨rfl, hb9⟩
                have HB9 : Hid (Below w.heap.size w w9) := hide (HXa.out.bel.trans (hb9.mono (by have := HXa.out.sz; omega)))
                clear hb9
                go_wp2_with fail
                go_ret
                exact ⟨rfl, HB9.out⟩
              by_cases a2 : (M : Int) < p
              · skip
                go_wp2_with fail
                refine (HK.out _).mono ?_
                rintro e w9 ⟨rfl, hb9⟩
                have HB9 : Hid (Below w.heap.size w w9) := hide (HXa.out.bel.trans (hb9.mono (by have := HXa.out.sz; omega)))
                clear hb9
                go_wp2_with fail
                go_ret
                exact ⟨rfl, HB9.out⟩
              by_cases a3 : M % p = 0
              case neg =>
                have a3' : ((M : Int) % (p : Int) != 0) = true := by rw [bne_iff_ne]; omega
                have A3 := hide a3
                clear a3
                go_wp2_with fail
                refine (HK.out _).mono ?_
                rintro e w9 ⟨rfl, hb9⟩
                have HB9 : Hid (Below w.heap.size w w9) := hide (HXa.out.bel.trans (hb9.mono (by have := HXa.out.sz; omega)))
                clear hb9
                go_wp2_with fail
                go_ret
                exact ⟨rfl, HB9.out⟩
              have a3' : ((M : Int) % (p : Int) != 0) = false := by rw [bne_eq_false_iff_eq]; omega
              have A3 := hide a3
              clear a3
              by_cases a4 : (q : Int) < 1
              · skip
                go_wp2_with fail
                refine (HK.out _).mono ?_
                rintro e w9 ⟨rfl, hb9⟩
                have HB9 : Hid (Below w.heap.size w w9) := hide (HXa.out.bel.trans (hb9.mono (by have := HXa.out.sz; omega)))
                clear hb9
                go_wp2_with fail
                go_ret
                exact ⟨rfl, HB9.out⟩
              by_cases a5 : (p : Int) < q
              · skip
                go_wp2_with fail
                refine (HK.out _).mono ?_
                rintro e w9 ⟨rfl, hb9⟩
                have HB9 : Hid (Below w.heap.size w w9) := hide (HXa.out.bel.trans (hb9.mono (by have := HXa.out.sz; omega)))
                clear hb9
                go_wp2_with fail
                go_ret
                exact ⟨rfl, HB9.out⟩
              have am : (((t : Int) + 1) % (p : Int)) = (((t + 1) % p : Nat) : Int) := by rw [Int.natCast_emod]; simp
              have Am := hide am
              clear am
              by_cases a6 : (t + 1) % p = 0
              · have a6' : (((t : Int) + 1) % (p : Int) == 0) = true := by rw [Am.out, a6]; rfl
                have A6 := hide a6
                clear a6
                by_cases a7 : r < q
                · have d7 : decide ((r : Int) < (q : Int)) = true := by simp; omega
                  go_wp2_with fail
                  go_quiet (fail)
                  have HXb := hide (HXa.out.drewN nq)
                  go_wp2_with fail
                  refine (HK.out _).mono ?_
                  rintro e w9 ⟨rfl, hb9⟩
                  have HB9 : Hid (Below w.heap.size w w9) := hide (HXb.out.bel.trans (hb9.mono (by have := HXb.out.sz; omega)))
                  clear hb9
                  go_wp2_with fail
                  go_ret
                  exact ⟨rfl, HB9.out⟩
                · have d7 : decide ((r : Int) < (q : Int)) = false := by simp; omega
                  have HS2 : Hid (Seen (Pf ys) (Bf ys) h M t i) := hide ⟨by rw [HP.out]; omega, by rw [HP.out]; omega, by rw [HP.out]; exact A3.out, by rw [HQ.out]; omega, by rw [HP.out, HQ.out]; omega, fun _ => by rw [HQ.out, ← Hr.out]; omega⟩
                  go_wp2_with fail
                  go_quiet (fail)
                  have HUb : Hid (UAt ((wr.alloc (.cells #[.int .i64 pos, .string sj, .int .u64 q, .int .u64 p] 28)).drewN nq) g ys.length (cwI (Pf ys) h t i)) := HUa
                  have HLb : Hid (Below g w3 ((wr.alloc (.cells #[.int .i64 pos, .string sj, .int .u64 q, .int .u64 p] 28)).drewN nq)) := hide (HLa.out.trans ⟨rfl, rfl, rfl, Nat.le_refl _, fun _ _ => rfl⟩)
                  clear HUa HLa HXa ua uf n0 n1 n2 n3 uc c3
                  generalize (wr.alloc (.cells #[.int .i64 pos, .string sj, .int .u64 q, .int .u64 p] 28)).drewN nq = wb at HUb HLb ⊢
                  have ub := HUb.out.cell i hi
                  have fb := HUb.out.frozen i
                  go_wp2_with fail
                  go_roundw
                  case rel =>
                    exact ⟨i + 1, by go_num, by omega, hide (HUb.out.set i 0 hi (by rw [cwI_set (by rw [HP.out]; exact A6.out)]; rfl) (fun j _ e => cwI_other e)), hide (HLb.out.setCell (Nat.le_refl _) _), hide (fun j hj => by
                      by_cases e : j = i
                      · subst e; exact HS2.out
                      · exact HSi.out j (by omega))⟩
                  case measure => simp [intOf]; omega
              · have a6' : (((t : Int) + 1) % (p : Int) == 0) = false := by rw [Am.out, beq_eq_false_iff_ne]; omega
                have A6 := hide a6
                clear a6
                have HS2 : Hid (Seen (Pf ys) (Bf ys) h M t i) := hide ⟨by rw [HP.out]; omega, by rw [HP.out]; omega, by rw [HP.out]; exact A3.out, by rw [HQ.out]; omega, by rw [HP.out, HQ.out]; omega, fun e => absurd e (by rw [HP.out]; exact A6.out)⟩
                go_wp2_with fail
                go_roundw
                case rel =>
                  exact ⟨i + 1, by go_num, by omega, hide (HUa.out.cong (fun j _ => cwI_keep (by rw [HP.out]; exact A6.out) j)), HLa, hide (fun j hj => by
                    by_cases e : j = i
                    · subst e; exact HS2.out
                    · exact HSi.out j (by omega))⟩
                case measure => simp [intOf]; omega
            · obtain rfl : i = ys.length := by omega
              go_wp2_with fail
              go_roundw
              case rel =>
                exact ⟨t + 1, by go_num, by omega, hide (HU.out.cong (fun j hj => by unfold cwI; rw [if_pos hj])), HL, hide (fun u hu j hj => by
                  by_cases e : u = t
                  · subst e; exact HSi.out j hj
                  · exact HS.out u (by omega) j hj)⟩
              case measure => simp [intOf]; omega
        · have HU1 : Hid (UAt wr g ys.length (cwI (Pf ys) h t 0)) := hide (HU.out.cong (fun i hi => by unfold cwI; rw [if_neg (by omega), Hht.out i]; simp; omega))
          have HL1 := HL
          by_cases hc1 : c < 0
          · go_wp2_with fail
            clear hcell c3
            go_loopw [9] (fun v9 wr => ∃ i : Nat, v9 = .int .i64 i ∧ i ≤ ys.length ∧ Hid (UAt wr g ys.length (cwI (Pf ys) h t i)) ∧ Hid (Below g w3 wr) ∧ Hid (∀ j, j < i → Seen (Pf ys) (Bf ys) h M t j)) (fun v _ => ys.length - (intOf v).toNat)
            case atStart => exact ⟨0, rfl, Nat.zero_le _, HU1, HL1, hide (fun j hj => absurd hj (Nat.not_lt_zero j))⟩
            case round =>
              clear HU HL HU1 HL1 HX HU1base
              obtain ⟨i, rfl, hi', HU, HL, HSi⟩ := hrel
              have HX := hide (HX3.out.on (by rw [Hg3.out]; exact HL.out))
              have c3 := HX.out.row.cell (o := 3) rfl
              have hgw := HU.out.lt
              by_cases hi : i < ys.length
              · obtain ⟨b1, off1, hA1, n0, n1, n2, n3⟩ := HX.out.runs i hi
                subst hA1
                obtain ⟨x, hx⟩ : ∃ x, x = ys[i] := ⟨_, rfl⟩
                have hgd : ys.getD i .zero = x := by rw [hx]; simp [List.getD, hi]
                rw [← hx] at n0 n1 n2 n3
                obtain ⟨b0, b9, p0, p9⟩ := HYo.out x (hx ▸ List.getElem_mem hi)
                obtain ⟨p, hp⟩ := Int.eq_ofNat_of_zero_le p0
                obtain ⟨q, hq⟩ := Int.eq_ofNat_of_zero_le b0
                have HP := hide (show Pf ys i = p by unfold Pf; rw [hgd, hp]; simp)
                have HQ := hide (show Bf ys i = q by unfold Bf; rw [hgd, hq]; simp)
                rw [hq] at n2 b9
                rw [hp] at n3 p9
                have uc := HU.out.cell i hi
                obtain ⟨r, hr⟩ : ∃ r, r = cwI (Pf ys) h t i i := ⟨_, rfl⟩
                rw [← hr] at uc
                have Hr := hide (show r = cw (Pf ys) h t i + (if h t i = true then 1 else 0) by rw [hr]; unfold cwI; rw [if_neg (by omega)])
                have Hr2 := hide hr
                obtain ⟨pos, hpos⟩ : ∃ pos, pos = x.pos := ⟨_, rfl⟩
                obtain ⟨sj, hsj⟩ : ∃ sj, sj = x.subj := ⟨_, rfl⟩
                rw [← hpos] at n0
                rw [← hsj] at n1
                clear hx hgd hp hq hr b0 p0 hpos hsj
                have hba : Below wr.heap.size wr (wr.alloc (.cells #[.int .i64 pos, .string sj, .int .u64 q, .int .u64 p] 28)) := (Below.refl _ _).alloc (Nat.le_refl _) _
                have HXa := hide (HX.out.on hba)
                have HUa := hide (HU.out.below hba hgw)
                have HLa : Hid (Below g w3 (wr.alloc (.cells #[.int .i64 pos, .string sj, .int .u64 q, .int .u64 p] 28))) := hide (HL.out.alloc (by omega) _)
                have ua := HUa.out.cell i hi
                have uf := HUa.out.frozen i
                rw [← Hr2.out] at ua
                clear hba
                by_cases a1 : (p : Int) < 1
                · skip
                  go_wp2_with fail
                  refine (HK.out _).mono ?_
                  rintro e w9 ⟨rfl, hb9⟩
                  have HB9 : Hid (Below w.heap.size w w9) := hide (HXa.out.bel.trans (hb9.mono (by have := HXa.out.sz; omega)))
                  clear hb9
                  go_wp2_with fail
                  go_ret
                  exact ⟨rfl, HB9.out⟩
                by_cases a2 : (M : Int) < p
                · skip
                  go_wp2_with fail
                  refine (HK.out _).mono ?_
                  rintro e w9 ⟨rfl, hb9⟩
                  have HB9 : Hid (Below w.heap.size w w9) := hide (HXa.out.bel.trans (hb9.mono (by have := HXa.out.sz; omega)))
                  clear hb9
                  go_wp2_with fail
                  go_ret
                  exact ⟨rfl, HB9.out⟩
                by_cases a3 : M % p = 0
                case neg =>
                  have a3' : ((M : Int) % (p : Int) != 0) = true := by rw [bne_iff_ne]; omega
                  have A3 := hide a3
                  clear a3
                  go_wp2_with fail
                  refine (HK.out _).mono ?_
                  rintro e w9 ⟨rfl, hb9⟩
                  have HB9 : Hid (Below w.heap.size w w9) := hide (HXa.out.bel.trans (hb9.mono (by have := HXa.out.sz; omega)))
                  clear hb9
                  go_wp2_with fail
                  go_ret
                  exact ⟨rfl, HB9.out⟩
                have a3' : ((M : Int) % (p : Int) != 0) = false := by rw [bne_eq_false_iff_eq]; omega
                have A3 := hide a3
                clear a3
                by_cases a4 : (q : Int) < 1
                · skip
                  go_wp2_with fail
                  refine (HK.out _).mono ?_
                  rintro e w9 ⟨rfl, hb9⟩
                  have HB9 : Hid (Below w.heap.size w w9) := hide (HXa.out.bel.trans (hb9.mono (by have := HXa.out.sz; omega)))
                  clear hb9
                  go_wp2_with fail
                  go_ret
                  exact ⟨rfl, HB9.out⟩
                by_cases a5 : (p : Int) < q
                · skip
                  go_wp2_with fail
                  refine (HK.out _).mono ?_
                  rintro e w9 ⟨rfl, hb9⟩
                  have HB9 : Hid (Below w.heap.size w w9) := hide (HXa.out.bel.trans (hb9.mono (by have := HXa.out.sz; omega)))
                  clear hb9
                  go_wp2_with fail
                  go_ret
                  exact ⟨rfl, HB9.out⟩
                have am : (((t : Int) + 1) % (p : Int)) = (((t + 1) % p : Nat) : Int) := by rw [Int.natCast_emod]; simp
                have Am := hide am
                clear am
                by_cases a6 : (t + 1) % p = 0
                · have a6' : (((t : Int) + 1) % (p : Int) == 0) = true := by rw [Am.out, a6]; rfl
                  have A6 := hide a6
                  clear a6
                  by_cases a7 : r < q
                  · have d7 : decide ((r : Int) < (q : Int)) = true := by simp; omega
                    go_wp2_with fail
                    go_quiet (fail)
                    have HXb := hide (HXa.out.drewN nq)
                    go_wp2_with fail
                    refine (HK.out _).mono ?_
                    rintro e w9 ⟨rfl, hb9⟩
                    have HB9 : Hid (Below w.heap.size w w9) := hide (HXb.out.bel.trans (hb9.mono (by have := HXb.out.sz; omega)))
                    clear hb9
                    go_wp2_with fail
                    go_ret
                    exact ⟨rfl, HB9.out⟩
                  · have d7 : decide ((r : Int) < (q : Int)) = false := by simp; omega
                    have HS2 : Hid (Seen (Pf ys) (Bf ys) h M t i) := hide ⟨by rw [HP.out]; omega, by rw [HP.out]; omega, by rw [HP.out]; exact A3.out, by rw [HQ.out]; omega, by rw [HP.out, HQ.out]; omega, fun _ => by rw [HQ.out, ← Hr.out]; omega⟩
                    go_wp2_with fail
                    go_quiet (fail)
                    have HUb : Hid (UAt ((wr.alloc (.cells #[.int .i64 pos, .string sj, .int .u64 q, .int .u64 p] 28)).drewN nq) g ys.length (cwI (Pf ys) h t i)) := HUa
                    have HLb : Hid (Below g w3 ((wr.alloc (.cells #[.int .i64 pos, .string sj, .int .u64 q, .int .u64 p] 28)).drewN nq)) := hide (HLa.out.trans ⟨rfl, rfl, rfl, Nat.le_refl _, fun _ _ => rfl⟩)
                    clear HUa HLa HXa ua uf n0 n1 n2 n3 uc c3
                    generalize (wr.alloc (.cells #[.int .i64 pos, .string sj, .int .u64 q, .int .u64 p] 28)).drewN nq = wb at HUb HLb ⊢
                    have ub := HUb.out.cell i hi
                    have fb := HUb.out.frozen i
                    go_wp2_with fail
                    go_roundw
                    case rel =>
                      exact ⟨i + 1, by go_num, by omega, hide (HUb.out.set i 0 hi (by rw [cwI_set (by rw [HP.out]; exact A6.out)]; rfl) (fun j _ e => cwI_other e)), hide (HLb.out.setCell (Nat.le_refl _) _), hide (fun j hj => by
                        by_cases e : j = i
                        · subst e; exact HS2.out
                        · exact HSi.out j (by omega))⟩
                    case measure => simp [intOf]; omega
                · have a6' : (((t : Int) + 1) % (p : Int) == 0) = false := by rw [Am.out, beq_eq_false_iff_ne]; omega
                  have A6 := hide a6
                  clear a6
                  have HS2 : Hid (Seen (Pf ys) (Bf ys) h M t i) := hide ⟨by rw [HP.out]; omega, by rw [HP.out]; omega, by rw [HP.out]; exact A3.out, by rw [HQ.out]; omega, by rw [HP.out, HQ.out]; omega, fun e => absurd e (by rw [HP.out]; exact A6.out)⟩
                  go_wp2_with fail
                  go_roundw
                  case rel =>
                    exact ⟨i + 1, by go_num, by omega, hide (HUa.out.cong (fun j _ => cwI_keep (by rw [HP.out]; exact A6.out) j)), HLa, hide (fun j hj => by
                      by_cases e : j = i
                      · subst e; exact HS2.out
                      · exact HSi.out j (by omega))⟩
                  case measure => simp [intOf]; omega
              · obtain rfl : i = ys.length := by omega
                go_wp2_with fail
                go_roundw
                case rel =>
                  exact ⟨t + 1, by go_num, by omega, hide (HU.out.cong (fun j hj => by unfold cwI; rw [if_pos hj])), HL, hide (fun u hu j hj => by
                    by_cases e : u = t
                    · subst e; exact HSi.out j hj
                    · exact HS.out u (by omega) j hj)⟩
                case measure => simp [intOf]; omega
          · have hc2 : (ys.length : Int) ≤ c := by omega
            go_wp2_with fail
            clear hcell c3
            go_loopw [9] (fun v9 wr => ∃ i : Nat, v9 = .int .i64 i ∧ i ≤ ys.length ∧ Hid (UAt wr g ys.length (cwI (Pf ys) h t i)) ∧ Hid (Below g w3 wr) ∧ Hid (∀ j, j < i → Seen (Pf ys) (Bf ys) h M t j)) (fun v _ => ys.length - (intOf v).toNat)
            case atStart => exact ⟨0, rfl, Nat.zero_le _, HU1, HL1, hide (fun j hj => absurd hj (Nat.not_lt_zero j))⟩
            case round =>
              clear HU HL HU1 HL1 HX HU1base
              obtain ⟨i, rfl, hi', HU, HL, HSi⟩ := hrel
              have HX := hide (HX3.out.on (by rw [Hg3.out]; exact HL.out))
              have c3 := HX.out.row.cell (o := 3) rfl
              have hgw := HU.out.lt
              by_cases hi : i < ys.length
              · obtain ⟨b1, off1, hA1, n0, n1, n2, n3⟩ := HX.out.runs i hi
                subst hA1
                obtain ⟨x, hx⟩ : ∃ x, x = ys[i] := ⟨_, rfl⟩
                have hgd : ys.getD i .zero = x := by rw [hx]; simp [List.getD, hi]
                rw [← hx] at n0 n1 n2 n3
                obtain ⟨b0, b9, p0, p9⟩ := HYo.out x (hx ▸ List.getElem_mem hi)
                obtain ⟨p, hp⟩ := Int.eq_ofNat_of_zero_le p0
                obtain ⟨q, hq⟩ := Int.eq_ofNat_of_zero_le b0
                have HP := hide (show Pf ys i = p by unfold Pf; rw [hgd, hp]; simp)
                have HQ := hide (show Bf ys i = q by unfold Bf; rw [hgd, hq]; simp)
                rw [hq] at n2 b9
                rw [hp] at n3 p9
                have uc := HU.out.cell i hi
                obtain ⟨r, hr⟩ : ∃ r, r = cwI (Pf ys) h t i i := ⟨_, rfl⟩
                rw [← hr] at uc
                have Hr := hide (show r = cw (Pf ys) h t i + (if h t i = true then 1 else 0) by rw [hr]; unfold cwI; rw [if_neg (by omega)])
                have Hr2 := hide hr
                obtain ⟨pos, hpos⟩ : ∃ pos, pos = x.pos := ⟨_, rfl⟩
                obtain ⟨sj, hsj⟩ : ∃ sj, sj = x.subj := ⟨_, rfl⟩
                rw [← hpos] at n0
                rw [← hsj] at n1
                clear hx hgd hp hq hr b0 p0 hpos hsj
                have hba : Below wr.heap.size wr (wr.alloc (.cells #[.int .i64 pos, .string sj, .int .u64 q, .int .u64 p] 28)) := (Below.refl _ _).alloc (Nat.le_refl _) _
                have HXa := hide (HX.out.on hba)
                have HUa := hide (HU.out.below hba hgw)
                have HLa : Hid (Below g w3 (wr.alloc (.cells #[.int .i64 pos, .string sj, .int .u64 q, .int .u64 p] 28))) := hide (HL.out.alloc (by omega) _)
                have ua := HUa.out.cell i hi
                have uf := HUa.out.frozen i
                rw [← Hr2.out] at ua
                clear hba
                by_cases a1 : (p : Int) < 1
                · skip
                  go_wp2_with fail
                  refine (HK.out _).mono ?_
                  rintro e w9 ⟨rfl, hb9⟩
                  have HB9 : Hid (Below w.heap.size w w9) := hide (HXa.out.bel.trans (hb9.mono (by have := HXa.out.sz; omega)))
                  clear hb9
                  go_wp2_with fail
                  go_ret
                  exact ⟨rfl, HB9.out⟩
                by_cases a2 : (M : Int) < p
                · skip
                  go_wp2_with fail
                  refine (HK.out _).mono ?_
                  rintro e w9 ⟨rfl, hb9⟩
                  have HB9 : Hid (Below w.heap.size w w9) := hide (HXa.out.bel.trans (hb9.mono (by have := HXa.out.sz; omega)))
                  clear hb9
                  go_wp2_with fail
                  go_ret
                  exact ⟨rfl, HB9.out⟩
                by_cases a3 : M % p = 0
                case neg =>
                  have a3' : ((M : Int) % (p : Int) != 0) = true := by rw [bne_iff_ne]; omega
                  have A3 := hide a3
                  clear a3
                  go_wp2_with fail
                  refine (HK.out _).mono ?_
                  rintro e w9 ⟨rfl, hb9⟩
                  have HB9 : Hid (Below w.heap.size w w9) := hide (HXa.out.bel.trans (hb9.mono (by have := HXa.out.sz; omega)))
                  clear hb9
                  go_wp2_with fail
                  go_ret
                  exact ⟨rfl, HB9.out⟩
                have a3' : ((M : Int) % (p : Int) != 0) = false := by rw [bne_eq_false_iff_eq]; omega
                have A3 := hide a3
                clear a3
                by_cases a4 : (q : Int) < 1
                · skip
                  go_wp2_with fail
                  refine (HK.out _).mono ?_
                  rintro e w9 ⟨rfl, hb9⟩
                  have HB9 : Hid (Below w.heap.size w w9) := hide (HXa.out.bel.trans (hb9.mono (by have := HXa.out.sz; omega)))
                  clear hb9
                  go_wp2_with fail
                  go_ret
                  exact ⟨rfl, HB9.out⟩
                by_cases a5 : (p : Int) < q
                · skip
                  go_wp2_with fail
                  refine (HK.out _).mono ?_
                  rintro e w9 ⟨rfl, hb9⟩
                  have HB9 : Hid (Below w.heap.size w w9) := hide (HXa.out.bel.trans (hb9.mono (by have := HXa.out.sz; omega)))
                  clear hb9
                  go_wp2_with fail
                  go_ret
                  exact ⟨rfl, HB9.out⟩
                have am : (((t : Int) + 1) % (p : Int)) = (((t + 1) % p : Nat) : Int) := by rw [Int.natCast_emod]; simp
                have Am := hide am
                clear am
                by_cases a6 : (t + 1) % p = 0
                · have a6' : (((t : Int) + 1) % (p : Int) == 0) = true := by rw [Am.out, a6]; rfl
                  have A6 := hide a6
                  clear a6
                  by_cases a7 : r < q
                  · have d7 : decide ((r : Int) < (q : Int)) = true := by simp; omega
                    go_wp2_with fail
                    go_quiet (fail)
                    have HXb := hide (HXa.out.drewN nq)
                    go_wp2_with fail
                    refine (HK.out _).mono ?_
                    rintro e w9 ⟨rfl, hb9⟩
                    have HB9 : Hid (Below w.heap.size w w9) := hide (HXb.out.bel.trans (hb9.mono (by have := HXb.out.sz; omega)))
                    clear hb9
                    go_wp2_with fail
                    go_ret
                    exact ⟨rfl, HB9.out⟩
                  · have d7 : decide ((r : Int) < (q : Int)) = false := by simp; omega
                    have HS2 : Hid (Seen (Pf ys) (Bf ys) h M t i) := hide ⟨by rw [HP.out]; omega, by rw [HP.out]; omega, by rw [HP.out]; exact A3.out, by rw [HQ.out]; omega, by rw [HP.out, HQ.out]; omega, fun _ => by rw [HQ.out, ← Hr.out]; omega⟩
                    go_wp2_with fail
                    go_quiet (fail)
                    have HUb : Hid (UAt ((wr.alloc (.cells #[.int .i64 pos, .string sj, .int .u64 q, .int .u64 p] 28)).drewN nq) g ys.length (cwI (Pf ys) h t i)) := HUa
                    have HLb : Hid (Below g w3 ((wr.alloc (.cells #[.int .i64 pos, .string sj, .int .u64 q, .int .u64 p] 28)).drewN nq)) := hide (HLa.out.trans ⟨rfl, rfl, rfl, Nat.le_refl _, fun _ _ => rfl⟩)
                    clear HUa HLa HXa ua uf n0 n1 n2 n3 uc c3
                    generalize (wr.alloc (.cells #[.int .i64 pos, .string sj, .int .u64 q, .int .u64 p] 28)).drewN nq = wb at HUb HLb ⊢
                    have ub := HUb.out.cell i hi
                    have fb := HUb.out.frozen i
                    go_wp2_with fail
                    go_roundw
                    case rel =>
                      exact ⟨i + 1, by go_num, by omega, hide (HUb.out.set i 0 hi (by rw [cwI_set (by rw [HP.out]; exact A6.out)]; rfl) (fun j _ e => cwI_other e)), hide (HLb.out.setCell (Nat.le_refl _) _), hide (fun j hj => by
                        by_cases e : j = i
                        · subst e; exact HS2.out
                        · exact HSi.out j (by omega))⟩
                    case measure => simp [intOf]; omega
                · have a6' : (((t : Int) + 1) % (p : Int) == 0) = false := by rw [Am.out, beq_eq_false_iff_ne]; omega
                  have A6 := hide a6
                  clear a6
                  have HS2 : Hid (Seen (Pf ys) (Bf ys) h M t i) := hide ⟨by rw [HP.out]; omega, by rw [HP.out]; omega, by rw [HP.out]; exact A3.out, by rw [HQ.out]; omega, by rw [HP.out, HQ.out]; omega, fun e => absurd e (by rw [HP.out]; exact A6.out)⟩
                  go_wp2_with fail
                  go_roundw
                  case rel =>
                    exact ⟨i + 1, by go_num, by omega, hide (HUa.out.cong (fun j _ => cwI_keep (by rw [HP.out]; exact A6.out) j)), HLa, hide (fun j hj => by
                      by_cases e : j = i
                      · subst e; exact HS2.out
                      · exact HSi.out j (by omega))⟩
                  case measure => simp [intOf]; omega
              · obtain rfl : i = ys.length := by omega
                go_wp2_with fail
                go_roundw
                case rel =>
                  exact ⟨t + 1, by go_num, by omega, hide (HU.out.cong (fun j hj => by unfold cwI; rw [if_pos hj])), HL, hide (fun u hu j hj => by
                    by_cases e : u = t
                    · subst e; exact HSi.out j hj
                    · exact HS.out u (by omega) j hj)⟩
                case measure => simp [intOf]; omega
      · obtain rfl : t = M := by omega
        have hnum : ∀ y, y ∈ ys → NumsOk t y := fun y hy => by
          obtain ⟨i, hi, rfl⟩ := List.mem_iff_getElem.1 hy
          obtain ⟨s1, s2, s3, s4, s5, _⟩ := HS.out 0 (by omega) i hi
          have hb := HYo.out _ (List.getElem_mem hi)
          have hg1 : Pf ys i = ys[i].period.toNat := by unfold Pf; simp [List.getD, hi]
          have hg2 : Bf ys i = ys[i].budget.toNat := by unfold Bf; simp [List.getD, hi]
          have hb0 := hb.b0; have hb1 := hb.p0
          refine ⟨by omega, by omega, by omega, ?_⟩
          have h9 : ((t % Pf ys i : Nat) : Int) = (t : Int) % ((Pf ys i : Nat) : Int) := Int.natCast_emod _ _
          rw [s3, show ((Pf ys i : Nat) : Int) = ys[i].period by omega] at h9
          omega
        have hfin := flat_best (h := h) (by omega) (by omega) hnum HYs.out (fun u i j a b => hit_eq (ws := ws) (t := u) (by rw [Hh.out] at a; exact a) (by rw [Hh.out] at b; exact b)) HS.out
        have HF := hide (flatten_any (t : Int) 0 0 true A1 c1 ys wr (by omega) hm1 (by omega) HX.out.runs HYo.out)
        have c0 := HX.out.row.cell (o := 0) rfl
        have c1' := HX.out.row.cell (o := 1) rfl
        have c2 := HX.out.row.cell (o := 2) rfl
        have Hfin := hide hfin
        clear hnum hfin
        go_wp2_with fail
        refine HF.out.mono ?_
        rintro e w8 ⟨v, rfl, hv, hb⟩
        obtain ⟨A8, k8, rfl, _⟩ := sval_at hv
        have HX8 := hide (HX.out.on hb)
        clear hv hb c0 c1' c2 c3
        have HFl := hide (flatL_len (major := (t : Int)) (xs := ys) (needs := true))
        rcases Hfin.out with ⟨e0, l0⟩ | e0
        · generalize flatL (t : Int) ys true = F at *
          obtain ⟨zs, i1, r1⟩ := F
          simp only at e0 l0
          subst e0
          have l1 := HFl.out
          simp only at l1
          go_wp2_with fail
          refine (HK.out _).mono ?_
          rintro e w9 ⟨rfl, hb9⟩
          have HB9 : Hid (Below w.heap.size w w9) := hide (HX8.out.bel.trans (hb9.mono (by have := HX8.out.sz; omega)))
          clear hb9
          go_wp2_with fail
          go_ret
          exact ⟨rfl, HB9.out⟩
        · generalize flatL (t : Int) ys true = F at *
          obtain ⟨zs, i1, r1⟩ := F
          simp only at e0
          subst e0
          have l1 := HFl.out
          simp only at l1
          go_wp2_with fail
          refine (HK.out _).mono ?_
          rintro e w9 ⟨rfl, hb9⟩
          have HB9 : Hid (Below w.heap.size w w9) := hide (HX8.out.bel.trans (hb9.mono (by have := HX8.out.sz; omega)))
          clear hb9
          go_wp2_with fail
          go_ret
          exact ⟨rfl, HB9.out⟩
end LA
end Go.Proofs.Ytenfikfgliljmaa
