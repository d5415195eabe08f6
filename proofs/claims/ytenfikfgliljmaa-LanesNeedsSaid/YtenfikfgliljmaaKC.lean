/- bulkheadlaw9.LanesNeeds returns true. -/
import Derived.Test.YtenfikfgliljmaaKB
import Derived.Test.YtenfikfgliljmaaPC
namespace Go.Proofs.Ytenfikfgliljmaa
open Go.RowKit
namespace LA
def dueO (xs : List Need) (t : Nat) : Option Nat → Nat
  | none => 0
  | some c => LT.due (Pf xs) c t
set_option maxHeartbeats 12800000 in
set_option maxRecDepth 100000 in
theorem lanesNeeds_any (major lp lc : Int) (needs : Bool) (A : Option Addr) (cap0 : Nat) (xs : List Need) (w : World) (hm0 : 0 ≤ major) (hm1 : major ≤ 18446744073709551615) (hn : xs.length ≤ 3518437208780) (hr : RunsAt w A xs) (hok : ∀ x, x ∈ xs → x.ok) :
    Calls Try.prog 7 #[.int .u64 major, laneV lp lc needs A xs.length cap0] w (TruePost w) := by
  obtain ⟨M, rfl⟩ := Int.eq_ofNat_of_zero_le hm0
  have HNm := hide (fun W h => named_any lp lc needs A cap0 xs W hn h)
  have r0 := Row.alloc_new w #[.int .i64 lp, .int .u64 lc, .bool needs, .slice A xs.length cap0] 31
  have R0 := hide r0
  have HB0 := hide ((Below.refl w.heap.size w).alloc (Nat.le_refl _) (.cells #[.int .i64 lp, .int .u64 lc, .bool needs, .slice A xs.length cap0] 31))
  have HR1 := hide (hr.below HB0.out)
  have HO := hide hok
  have HK := hide known_any
  clear hr r0 hok
  go_enter Try.func7, Try.ntmps7
  go_wp2_with fail
  refine (HNm.out _ HR1.out).mono ?_
  rintro e w1 ⟨ys, A1, c1, rfl, hren, hr1, hb, hA1⟩
  have R1 : Hid (Row w1 w.heap.size 31 #[.int .i64 lp, .int .u64 lc, .bool needs, .slice A xs.length cap0]) := hide ((hb.block _ (by simp)).trans R0.out)
  have HB1 : Hid (Below w.heap.size w w1) := hide (HB0.out.trans (hb.mono (by simp)))
  obtain ⟨⟨p0, p1, p2, p3⟩, ⟨f0, f1, f2, f3⟩, ⟨g1, k1⟩, ⟨g2, k2⟩, ⟨g3, k3⟩, Rb, hu⟩ := boxFacts R1.out (.int .i64 0) (.int .u64 0) (.bool true) (.slice A1 ys.length c1)
  have HX0 : Hid (BsAt w (boxW w1 w.heap.size (.int .i64 0) (.int .u64 0) (.bool true) (.slice A1 ys.length c1)) A1 ys c1 none []) := hide
    ⟨Rb, hr1.upd hu (fun b off e h => by have := hA1 b off e; simp at this; omega), fun i h => absurd h (Nat.not_lt_zero i), HB1.out.trans (hu.below (fun b e => by omega) HB1.out.size), by have := hu.size; have := R1.out.lt; omega⟩
  have q0 := Rb.cell (o := 0) rfl
  have q1 := Rb.cell (o := 1) rfl
  have q2 := Rb.cell (o := 2) rfl
  have q3 := Rb.cell (o := 3) rfl
  have hyl : ys.length ≤ 3518437208780 := by have := hren.1; omega
  have hyo : ∀ y, y ∈ ys → y.ok := fun y hy => by
    obtain ⟨i, h, rfl⟩ := List.mem_iff_getElem.1 hy
    obtain ⟨a, b, _⟩ := hren.2 i (by have := hren.1; omega) h
    have hix : i < xs.length := by have := hren.1; omega
    obtain ⟨o1, o2, o3, o4⟩ := HO.out xs[i] (List.getElem_mem hix)
    exact ⟨by omega, by omega, by omega, by omega⟩
  have hys : ∀ y, y ∈ ys → y.subj.toList ≠ [] := fun y hy => by
    obtain ⟨i, h, rfl⟩ := List.mem_iff_getElem.1 hy
    exact (hren.2 i (by have := hren.1; omega) h).2.2
  have HYo := hide hyo
  have HYs := hide hys
  have HGr := hide (fun W => great_any (M : Int) 0 0 true A1 ys.length c1 W (by omega) hm1 (by omega))
  clear hren hr1 hb hA1 Rb hu hyo hys
  go_wp2_with fail
  clear p0 p1 p2 p3 f0 f1 f2 f3 g1 k1 g2 k2 g3 k3 q0 q1 q2 q3
  unfold boxW at HX0
  generalize (((w1.setCell ⟨w.heap.size, 0, none⟩ (.int .i64 0)).setCell ⟨w.heap.size, 1, none⟩ (.int .u64 0)).setCell ⟨w.heap.size, 2, none⟩ (.bool true)).setCell ⟨w.heap.size, 3, none⟩ (.slice A1 ys.length c1) = w2 at HX0 ⊢
  refine (HGr.out w2).mono ?_
  rintro e w3 ⟨rfl, hb⟩
  have HX3 := hide (HX0.out.on hb)
  have c3 := HX3.out.row.cell (o := 3) rfl
  clear hb HX0
  cases hg : greatL (M : Int) ys.length true with
  | true =>
    go_wp2_with fail
    refine (HK.out _).mono ?_
    rintro e w9 ⟨rfl, hb9⟩
    have HB9 : Hid (Below w.heap.size w w9) := hide (HX3.out.bel.trans (hb9.mono (by have := HX3.out.sz; omega)))
    clear hb9
    go_wp2_with fail
    go_ret
    exact ⟨rfl, HB9.out⟩
  | false =>
    have hn5 : ys.length ≤ 5000 := by
      unfold greatL at hg
      simp at hg
      omega
    by_cases h1 : (M : Int) < 1
    · skip
      go_wp2_with fail
      refine (HK.out _).mono ?_
      rintro e w9 ⟨rfl, hb9⟩
      have HB9 : Hid (Below w.heap.size w w9) := hide (HX3.out.bel.trans (hb9.mono (by have := HX3.out.sz; omega)))
      clear hb9
      go_wp2_with fail
      go_ret
      exact ⟨rfl, HB9.out⟩
    by_cases h2 : 65536 < (M : Int)
    · skip
      go_wp2_with fail
      refine (HK.out _).mono ?_
      rintro e w9 ⟨rfl, hb9⟩
      have HB9 : Hid (Below w.heap.size w w9) := hide (HX3.out.bel.trans (hb9.mono (by have := HX3.out.sz; omega)))
      clear hb9
      go_wp2_with fail
      go_ret
      exact ⟨rfl, HB9.out⟩
    by_cases h3 : 2000 < ys.length
    · skip
      go_wp2_with fail
      refine (HK.out _).mono ?_
      rintro e w9 ⟨rfl, hb9⟩
      have HB9 : Hid (Below w.heap.size w w9) := hide (HX3.out.bel.trans (hb9.mono (by have := HX3.out.sz; omega)))
      clear hb9
      go_wp2_with fail
      go_ret
      exact ⟨rfl, HB9.out⟩

    clear hg
    have HL3 := hide (Below.refl w3.heap.size w3)
    go_wp2_with fail
    clear c3
    go_loopw [5, 6] (fun v5 v6 wr => ∃ (k : Nat) (s : Int), v5 = .int .u64 s ∧ v6 = .int .i64 k ∧ k ≤ ys.length ∧ 0 ≤ s ∧ s ≤ 65536 * k ∧ Hid (s = sumW (M : Int) true (ys.take k)) ∧ Hid (∀ j (h : j < ys.length), j < k → NumsOk M ys[j]) ∧ Hid (Below w3.heap.size w3 wr)) (fun _ v _ => ys.length - (intOf v).toNat)
    case atStart => exact ⟨0, 0, rfl, rfl, Nat.zero_le _, by omega, by omega, hide rfl, hide (fun j h hj => absurd hj (Nat.not_lt_zero j)), HL3⟩
    case round =>
      obtain ⟨k, s, rfl, rfl, hk, hs0, hs1, HS, HN, HL⟩ := hrel
      have HX := hide (HX3.out.on HL.out)
      have c3 := HX.out.row.cell (o := 3) rfl
      by_cases hlt : k < ys.length
      · obtain ⟨b, off, hA, n0, n1, n2, n3⟩ := HX.out.runs k hlt
        subst hA
        obtain ⟨x, hx⟩ : ∃ x, x = ys[k] := ⟨_, rfl⟩
        rw [← hx] at n0 n1 n2 n3
        obtain ⟨b0, b9, p0, p9⟩ := HYo.out x (hx ▸ List.getElem_mem hlt)
        obtain ⟨p, hp⟩ := Int.eq_ofNat_of_zero_le p0
        obtain ⟨q, hq⟩ := Int.eq_ofNat_of_zero_le b0
        rw [hq] at n2 b9
        rw [hp] at n3 p9
        have Hx := hide hx
        have Hp := hide hp
        have Hq := hide hq
        obtain ⟨pos, hpos⟩ : ∃ pos, pos = x.pos := ⟨_, rfl⟩
        obtain ⟨sj, hsj⟩ : ∃ sj, sj = x.subj := ⟨_, rfl⟩
        rw [← hpos] at n0
        rw [← hsj] at n1
        clear hx hp hq b0 p0 hpos hsj
        have hba : Below wr.heap.size wr (wr.alloc (.cells #[.int .i64 pos, .string sj, .int .u64 q, .int .u64 p] 28)) := (Below.refl _ _).alloc (Nat.le_refl _) _
        have HXa := hide (HX.out.on hba)
        have HLa : Hid (Below w3.heap.size w3 (wr.alloc (.cells #[.int .i64 pos, .string sj, .int .u64 q, .int .u64 p] 28))) := hide (HL.out.alloc (HL.out.size) _)
        clear hba
        by_cases a1 : (q : Int) < 1
        · skip
          go_wp2_with fail
          refine (HK.out _).mono ?_
          rintro e w9 ⟨rfl, hb9⟩
          have HB9 : Hid (Below w.heap.size w w9) := hide (HXa.out.bel.trans (hb9.mono (by have := HXa.out.sz; omega)))
          clear hb9
          go_wp2_with fail
          go_ret
          exact ⟨rfl, HB9.out⟩
        by_cases a2 : (p : Int) < q
        · skip
          go_wp2_with fail
          refine (HK.out _).mono ?_
          rintro e w9 ⟨rfl, hb9⟩
          have HB9 : Hid (Below w.heap.size w w9) := hide (HXa.out.bel.trans (hb9.mono (by have := HXa.out.sz; omega)))
          clear hb9
          go_wp2_with fail
          go_ret
          exact ⟨rfl, HB9.out⟩
        by_cases a3 : (M : Int) < p
        · skip
          go_wp2_with fail
          refine (HK.out _).mono ?_
          rintro e w9 ⟨rfl, hb9⟩
          have HB9 : Hid (Below w.heap.size w w9) := hide (HXa.out.bel.trans (hb9.mono (by have := HXa.out.sz; omega)))
          clear hb9
          go_wp2_with fail
          go_ret
          exact ⟨rfl, HB9.out⟩
        by_cases a4 : M % p = 0
        case neg =>
          have a4' : ((M : Int) % (p : Int) != 0) = true := by rw [bne_iff_ne]; omega
          have A4 := hide a4
          clear a4
          go_wp2_with fail
          refine (HK.out _).mono ?_
          rintro e w9 ⟨rfl, hb9⟩
          have HB9 : Hid (Below w.heap.size w w9) := hide (HXa.out.bel.trans (hb9.mono (by have := HXa.out.sz; omega)))
          clear hb9
          go_wp2_with fail
          go_ret
          exact ⟨rfl, HB9.out⟩
        have a4' : ((M : Int) % (p : Int) != 0) = false := by rw [bne_eq_false_iff_eq]; omega
        have A4 := hide a4
        clear a4
        have hnum : NumsOk M x := ⟨by rw [Hq.out]; omega, by rw [Hq.out, Hp.out]; omega, by rw [Hp.out]; omega, by rw [Hp.out, ← Int.natCast_emod, A4.out]; rfl⟩
        have hwl := wants_le' hnum
        obtain ⟨wt, hwt⟩ : ∃ wt, wt = wantsC (M : Int) x true := ⟨_, rfl⟩
        rw [← hwt] at hwl
        obtain ⟨hwl0, hwl1⟩ := hwl
        have hwq : ((M : Int) / (p : Int)) * (q : Int) = wt := by rw [hwt]; unfold wantsC; rw [if_pos rfl, Hq.out, Hp.out, Int.mul_comm]
        have hd0 : 0 ≤ (M : Int) / (p : Int) := Int.ediv_nonneg (by omega) (by omega)
        have hd1 : (M : Int) / (p : Int) ≤ M := Int.ediv_le_self _ (by omega)
        have hw0 : IntKind.u64.wrap ((M : Int) / (p : Int)) = (M : Int) / (p : Int) := IntWalk.u64_in _ (by omega)
        have hw1 : IntKind.u64.wrap wt = wt := IntWalk.u64_in _ (by omega)
        have hw2 : IntKind.u64.wrap (s + wt) = s + wt := IntWalk.u64_in _ (by omega)
        have HSn : Hid (s + wt = sumW (M : Int) true (ys.take (k + 1))) := hide (by
          rw [List.take_succ_eq_append_getElem hlt, sumW_append, ← HS.out, ← Hx.out, hwt]; simp [sumW])
        have HNn : Hid (∀ j (h : j < ys.length), j < k + 1 → NumsOk M ys[j]) := hide (fun j h hj => by
          by_cases e : j = k
          · subst e; rw [← Hx.out]; exact hnum
          · exact HN.out j h (by omega))
        have Hwt := hide hwt
        clear hnum hwt
        go_wp2_with fail
        go_quiet (fail)
        have HLb : Hid (Below w3.heap.size w3 ((wr.alloc (.cells #[.int .i64 pos, .string sj, .int .u64 q, .int .u64 p] 28)).drewN nq)) := hide (HLa.out.trans ⟨rfl, rfl, rfl, Nat.le_refl _, fun _ _ => rfl⟩)
        go_wp2_with fail
        go_roundw
        case rel => exact ⟨k + 1, s + wt, rfl, by go_num, by omega, by omega, by omega, HSn, HNn, HLb⟩
        case measure => simp [intOf]; omega
      · obtain rfl : k = ys.length := by omega
        have hnums : ∀ y, y ∈ ys → NumsOk M y := fun y hy => by
          obtain ⟨i, h, rfl⟩ := List.mem_iff_getElem.1 hy
          exact HN.out i h h
        have Hnums := hide hnums
        have hsum := HS.out
        rw [List.take_length] at hsum
        have Hsum := hide hsum
        have hfl := flat_nums (M := M) (xs := ys) (by omega) (by omega) hnums HYs.out
        have HF := hide (flatten_any (M : Int) 0 0 true A1 c1 ys wr (by omega) hm1 (by omega) HX.out.runs HYo.out)
        have c0 := HX.out.row.cell (o := 0) rfl
        have c1' := HX.out.row.cell (o := 1) rfl
        have c2 := HX.out.row.cell (o := 2) rfl
        by_cases hsm : (M : Int) < s
        · obtain ⟨j, hj0, hj1, hfj⟩ := hfl.2 (by rw [← hsum]; exact hsm)
          have Hfj := hide hfj
          clear hfl hnums hsum hfj
          go_wp2_with fail
          refine HF.out.mono ?_
          intro e w8 hp8
          obtain ⟨v, rfl, hv, hb⟩ := flat_at Hfj.out hp8
          obtain rfl := sval_none hv
          have HX8 := hide (HX.out.on hb)
          clear hv hb hp8 c0 c1' c2 c3
          have c3 := HX8.out.row.cell (o := 3) rfl
          go_wp2_with fail
          refine (HK.out _).mono ?_
          rintro e w9 ⟨rfl, hb9⟩
          have HB9 : Hid (Below w.heap.size w w9) := hide (HX8.out.bel.trans (hb9.mono (by have := HX8.out.sz; omega)))
          clear hb9
          go_wp2_with fail
          go_ret
          exact ⟨rfl, HB9.out⟩
        · have hfl2 := hfl.1 (by rw [← hsum]; omega)
          have HFit := hide (fit_nums (by omega) (by omega) (by omega) hnums (by rw [← hsum]; omega))
          by_cases hbig : 4096 < (rowOf (whoF ys) M).length
          · rw [if_pos hbig] at hfl2
            have Hf2 := hide hfl2
            clear hfl hnums hsum hfl2
            go_wp2_with fail
            refine HF.out.mono ?_
            intro e w8 hp8
            obtain ⟨v, rfl, hv, hb⟩ := flat_at Hf2.out hp8
            obtain rfl := sval_none hv
            have HX8 := hide (HX.out.on hb)
            clear hv hb hp8 c0 c1' c2 c3
            go_wp2_with fail
            refine (HK.out _).mono ?_
            rintro e w9 ⟨rfl, hb9⟩
            have HB9 : Hid (Below w.heap.size w w9) := hide (HX8.out.bel.trans (hb9.mono (by have := HX8.out.sz; omega)))
            clear hb9
            go_wp2_with fail
            go_ret
            exact ⟨rfl, HB9.out⟩
          · rw [if_neg hbig] at hfl2
            have Hf2 := hide hfl2
            obtain ⟨row, hrow⟩ : ∃ row, row = rowOf (whoF ys) M := ⟨_, rfl⟩
            rw [← hrow] at hbig Hf2
            obtain ⟨NN, hNN⟩ : ∃ NN, NN = (List.range M).map (whoF ys) := ⟨_, rfl⟩
            have HNl := hide (show NN.length = M by rw [hNN]; simp)
            have HNg : Hid (∀ t (h : t < NN.length), NN[t] = whoF ys t) := hide (fun t h => by subst hNN; simp)
            have Hrow : Hid (row = rowTk NN) := hide (by rw [hrow, rowOf_names, hNN])
            have hpos : 0 < row.length := by rw [hrow]; exact rowOf_ne _ _ (by omega)
            clear hfl hnums hsum hfl2 hrow hNN
            go_wp2_with fail
            refine HF.out.mono ?_
            intro e w8 hp8
            obtain ⟨v, rfl, hv, hb⟩ := flat_at Hf2.out hp8
            obtain ⟨gs, ks, rfl, hgs, hsl⟩ := sval_some hv hpos
            have HX8 := hide (HX.out.on hb)
            have HSl := hide hsl
            have hgsl : gs < w8.heap.size := by
              obtain ⟨b, off, e1, e2, _⟩ := hsl 0 hpos
              cases e1
              exact World.block_lt_of_cell? w8 _ e2
            clear hv hb hp8 c0 c1' c2 c3 hsl
            have c3 := HX8.out.row.cell (o := 3) rfl
            obtain ⟨i0, hi, hz0, hz1, hz2⟩ := info_parts info26
            have Hi := hide hi; have Hz0 := hide hz0; have Hz1 := hide hz1; have Hz2 := hide hz2
            clear hi hz0 hz1 hz2
            go_wp2_with (at_make; refine wpList_make_full _ rfl _ _ 53 rfl w8.heap.size 26 i0 (.int .u64 0) 1 und53 Hi.out Hz0.out Hz1.out .i64 .i64 _ _ ys.length rfl rfl rfl rfl (by rw [Hz2.out]; omega) (by unfold maxLen; omega) (by omega) ?_; intro w4 hown4 hgrow4; have HU4 := hide (UAt.make hown4).2; have HL4 := hide ((Below.refl w8.heap.size w8).grown hgrow4 (Nat.le_refl _) (by simp)); clear hown4 hgrow4 c3)
            generalize hg3 : w8.heap.size = g at *
            have Hg3 := hide hg3
            clear hg3
            have hch := (rowTk_facts NN).1
            rw [← Hrow.out] at hch
            have hen := (rowTk_facts NN).2.2
            rw [← Hrow.out, HNl.out] at hen
            have HBd : Hid (∀ k (h : k < row.length), 0 ≤ row[k].hi ∧ row[k].hi ≤ M) := hide (fun k h => by
              have := Ch_mem hch row[k] (List.getElem_mem h)
              rw [hen] at this
              omega)
            clear hch hen
            go_loopw [12, 13] (fun v12 v13 wr => ∃ (k t : Nat), v12 = .int .i64 k ∧ v13 = .int .u64 t ∧ t ≤ M ∧ k ≤ row.length ∧ Hid (∀ j (h : j < row.length), j < k → row[j].hi ≤ t) ∧ Hid (UAt wr g ys.length (dnP ys t)) ∧ Hid (Below g w8 wr)) (fun _ v _ => M - (intOf v).toNat)
            case atStart => exact ⟨0, 0, rfl, rfl, Nat.zero_le _, Nat.zero_le _, hide (fun j h hj => absurd hj (Nat.not_lt_zero j)), hide (HU4.out.cong (fun _ _ => rfl)), HL4⟩
            case round =>
              clear HX HL
              obtain ⟨k, t, rfl, rfl, ht, hk, HKb, HU, HL⟩ := hrel
              have HX := hide (HX8.out.on (by rw [Hg3.out]; exact HL.out))
              have HSw := hide (HSl.out.below (by rw [Hg3.out]; exact HL.out))
              by_cases hlt : t < M
              · go_wp2_with fail
                go_loop [12] (fun v12 => ∃ k : Nat, v12 = .int .i64 k ∧ k ≤ row.length ∧ Hid (∀ j (h : j < row.length), j < k → row[j].hi ≤ t)) (fun v => row.length - (intOf v).toNat)
                case atStart => exact ⟨k, rfl, hk, HKb⟩
                case round =>
                  clear HKb hk
                  obtain ⟨k, rfl, hk, HKb⟩ := hrel
                  have hkl : k < row.length := by
                    by_cases h : k < row.length
                    · exact h
                    · exfalso
                      obtain rfl : k = row.length := by omega
                      have hb := HKb.out
                      have hr := Hrow.out
                      subst hr
                      exact slot_last (N := NN) (t := t) (by rw [HNl.out]; exact hlt) (fun j hj => hb j hj hj)
                  obtain ⟨bs, os, e1, s0, s1, s2⟩ := HSw.out k hkl
                  cases e1
                  rw [Nat.zero_add] at s0 s2
                  obtain ⟨hb0, hb1⟩ := HBd.out k hkl
                  obtain ⟨hi, hhi⟩ := Int.eq_ofNat_of_zero_le hb0
                  rw [hhi] at s2 hb1
                  have Hhi := hide hhi
                  clear hhi hb0 s1
                  by_cases hle : (hi : Int) ≤ t
                  · go_wp2_with fail
                    go_round
                    case rel => exact ⟨k + 1, by go_num, by omega, hide (fun j h hj => by
                      by_cases e : j = k
                      · subst e; rw [Hhi.out]; exact hle
                      · exact HKb.out j h (by omega))⟩
                    case measure => simp [intOf]; omega
                  · have hname : row[k].subj.toList = (whoF ys t).toList := by
                      have hr := Hrow.out
                      have hb := HKb.out
                      have hh := Hhi.out
                      have hnl := HNl.out
                      rw [← HNg.out t (by omega)]
                      subst hr
                      exact slot_name hkl (fun j hj => hb j (by omega) hj) (by omega) (by omega)
                    have Hname := hide hname
                    obtain ⟨sn, hsn⟩ : ∃ sn, sn = row[k].subj := ⟨_, rfl⟩
                    rw [← hsn] at s0
                    have Hsn := hide hsn
                    have hkne : ((k : Int) == (row.length : Int)) = false := by rw [beq_eq_false_iff_ne]; omega
                    clear hname hsn
                    go_wp2_with fail
                    clear s2 hkne
                    go_loopw [14, 15, 16] (fun v14 v15 v16 wr => ∃ (i : Nat) (o : Option Nat), v14 = .int .i64 (optI o) ∧ v15 = .int .u64 (dueO ys t o : Nat) ∧ v16 = .int .i64 i ∧ i ≤ ys.length ∧ Hid (o = bestA ys t i) ∧ Hid (UAt wr g ys.length (dnI ys t i)) ∧ Hid (Below g w8 wr)) (fun _ _ v _ => ys.length - (intOf v).toNat)
                    case atStart => exact ⟨0, none, rfl, rfl, rfl, Nat.zero_le _, hide rfl, hide (HU.out.cong (fun _ _ => rfl)), HL⟩
                    case round =>
                      clear HX HU HL HSw s0
                      obtain ⟨i, o, rfl, rfl, rfl, hi', Ho, HU, HL⟩ := hrel
                      have HX := hide (HX8.out.on (by rw [Hg3.out]; exact HL.out))
                      have c3 := HX.out.row.cell (o := 3) rfl
                      have hgw := HU.out.lt
                      by_cases hi : i < ys.length
                      · obtain ⟨b1, off1, hA1, n0, n1, n2, n3⟩ := HX.out.runs i hi
                        subst hA1
                        obtain ⟨x, hx⟩ : ∃ x, x = ys[i] := ⟨_, rfl⟩
                        have hgd : ys.getD i .zero = x := by rw [hx]; simp [List.getD, hi]
                        rw [← hx] at n0 n1 n2 n3
                        obtain ⟨m1, m2, m3, m4⟩ := Hnums.out x (hx ▸ List.getElem_mem hi)
                        obtain ⟨p, hp⟩ := Int.eq_ofNat_of_zero_le (show 0 ≤ x.period by omega)
                        obtain ⟨q, hq⟩ := Int.eq_ofNat_of_zero_le (show 0 ≤ x.budget by omega)
                        have HP := hide (show Pf ys i = p by unfold Pf; rw [hgd, hp]; simp)
                        have HQ := hide (show Bf ys i = q by unfold Bf; rw [hgd, hq]; simp)
                        rw [hq] at n2 m1 m2
                        rw [hp] at n3 m2 m3
                        obtain ⟨pos, hpos⟩ : ∃ pos, pos = x.pos := ⟨_, rfl⟩
                        obtain ⟨sj, hsj⟩ : ∃ sj, sj = x.subj := ⟨_, rfl⟩
                        rw [← hpos] at n0
                        rw [← hsj] at n1
                        clear hx hgd hp hq hpos hsj m4
                        obtain ⟨d, hd⟩ : ∃ d, d = LT.due (Pf ys) i t := ⟨_, rfl⟩
                        have Hd := hide hd
                        have hdv : d = (t / p + 1) * p := by rw [hd]; unfold LT.due; rw [HP.out]
                        have hdm := Nat.div_mul_le_self t p
                        have hd2 : d ≤ 131072 := by rw [hdv, Nat.add_mul, Nat.one_mul]; omega
                        have hq0 : (((t / p : Nat)) : Int) = (t : Int) / (p : Int) := Int.natCast_ediv _ _
                        have hE3 : ((t : Int) / (p : Int) + 1) * (p : Int) = (d : Int) := by rw [hdv, Int.natCast_mul, Int.natCast_add, hq0]; rfl
                        have hq1 : 0 ≤ (t : Int) / (p : Int) := Int.ediv_nonneg (by omega) (by omega)
                        have hq2 : (t : Int) / (p : Int) ≤ t := Int.ediv_le_self _ (by omega)
                        have hE1 : IntKind.u64.wrap ((t : Int) / (p : Int)) = (t : Int) / (p : Int) := IntWalk.u64_in _ (by omega)
                        have hE2 : IntKind.u64.wrap ((t : Int) / (p : Int) + 1) = (t : Int) / (p : Int) + 1 := IntWalk.u64_in _ (by omega)
                        have hE4 : IntKind.u64.wrap (d : Int) = (d : Int) := IntWalk.u64_in _ (by omega)
                        clear hd hdv hdm hq0
                        have hba : Below wr.heap.size wr (wr.alloc (.cells #[.int .i64 pos, .string sj, .int .u64 q, .int .u64 p] 28)) := (Below.refl _ _).alloc (Nat.le_refl _) _
                        have HUa := hide (HU.out.below hba hgw)
                        have HLa : Hid (Below g w8 (wr.alloc (.cells #[.int .i64 pos, .string sj, .int .u64 q, .int .u64 p] 28))) := hide (HL.out.alloc (by omega) _)
                        have RX : Hid (Row (wr.alloc (.cells #[.int .i64 pos, .string sj, .int .u64 q, .int .u64 p] 28)) wr.heap.size 28 #[.int .i64 pos, .string sj, .int .u64 q, .int .u64 p]) := hide (Row.alloc_new _ _ _)
                        clear hba
                        by_cases hm : t % p = 0
                        · have a1 : (((t : Int) % (p : Int)) == 0) = true := by rw [beq_iff_eq, ← Int.natCast_emod, hm]; rfl
                          have Hm := hide hm
                          have ua := HUa.out.cell i hi
                          rw [dnI_at] at ua
                          have Hlf : Hid (0 < LT.lf (Pf ys) (Bf ys) ys.length t i) := hide ((dnI_left HFit.out hi).1 (by rw [dnI_set (by rw [HP.out]; exact hm), HQ.out]; omega))
                          clear hm
                          by_cases ht0 : t = 0
                          · have g0 : decide (0 < (t : Int)) = false := by simp; omega
                            have g1 : decide (0 < t) = false := by simp; omega
                            obtain ⟨r, hr⟩ : ∃ r, r = dnP ys t i := ⟨_, rfl⟩
                            rw [← hr] at ua
                            clear hr
                            have Ht0 := hide ht0
                            clear ht0
                            go_wp2_with fail
                            go_quiet (fail)
                            have HUb : Hid (UAt ((wr.alloc (.cells #[.int .i64 pos, .string sj, .int .u64 q, .int .u64 p] 28)).drewN nq) g ys.length (dnI ys t i)) := HUa
                            have HLb : Hid (Below g w8 ((wr.alloc (.cells #[.int .i64 pos, .string sj, .int .u64 q, .int .u64 p] 28)).drewN nq)) := hide (HLa.out.trans ⟨rfl, rfl, rfl, Nat.le_refl _, fun _ _ => rfl⟩)
                            replace RX : Hid (Row ((wr.alloc (.cells #[.int .i64 pos, .string sj, .int .u64 q, .int .u64 p] 28)).drewN nq) wr.heap.size 28 #[.int .i64 pos, .string sj, .int .u64 q, .int .u64 p]) := RX
                            clear HUa HLa ua a1 n0 n1 n2 n3 c3
                            generalize (wr.alloc (.cells #[.int .i64 pos, .string sj, .int .u64 q, .int .u64 p] 28)).drewN nq = wb at HUb HLb RX ⊢
                            have ub := HUb.out.cell i hi
                            have fb := HUb.out.frozen i
                            have HU2 : Hid (UAt (wb.setCell ⟨g, i, none⟩ (.int .u64 0)) g ys.length (dnI ys t (i + 1))) := hide (HUb.out.set i 0 hi (by rw [dnI_set (by rw [HP.out]; exact Hm.out)]; rfl) (fun j _ e => dnI_other e))
                            have HL2 : Hid (Below g w8 (wb.setCell ⟨g, i, none⟩ (.int .u64 0))) := hide (HLb.out.setCell (Nat.le_refl _) _)
                            have hne : g ≠ wr.heap.size := by omega
                            replace RX : Hid (Row (wb.setCell ⟨g, i, none⟩ (.int .u64 0)) wr.heap.size 28 #[.int .i64 pos, .string sj, .int .u64 q, .int .u64 p]) := hide (RX.out.setCell_ne hne _)
                            go_wp2_with fail
                            clear ub fb HUb HLb g0 g1
                            generalize wb.setCell ⟨g, i, none⟩ (.int .u64 0) = wy at HU2 HL2 RX ⊢
                            have x3 := RX.out.cell (o := 3) rfl
                            go_quiet (fail)
                            replace HU2 : Hid (UAt (wy.drewN nq) g ys.length (dnI ys t (i + 1))) := HU2
                            replace HL2 : Hid (Below g w8 (wy.drewN nq)) := hide (HL2.out.trans ⟨rfl, rfl, rfl, Nat.le_refl _, fun _ _ => rfl⟩)
                            replace RX : Hid (Row (wy.drewN nq) wr.heap.size 28 #[.int .i64 pos, .string sj, .int .u64 q, .int .u64 p]) := RX
                            clear x3
                            generalize wy.drewN nq = wz at HU2 HL2 RX ⊢
                            go_wp2_with fail
                            have x2 := RX.out.cell (o := 2) rfl
                            have uz := HU2.out.cell i hi
                            rw [dnI_set (by rw [HP.out]; exact Hm.out)] at uz
                            have t1 : decide ((0 : Int) < (q : Int)) = true := by simp; omega
                            have t2 : decide (0 < q) = true := by simp; omega
                            have uz' : wz.cell? ⟨g, i, none⟩ = some (.int .u64 0) := uz
                            clear uz
                            cases o with
                            | none =>
                              have e0 : optI none = -1 := rfl
                              rw [e0] at *
                              go_quiet (fail)
                              go_wp2_with fail
                              go_roundw
                              case rel => exact ⟨i + 1, some i, rfl, by rw [show dueO ys t (some i) = d from Hd.out.symm], by go_num, by omega, hide (by rw [bestA_none' Ho.out.symm, if_pos Hlf.out]), HU2, hide (HL2.out.trans ⟨rfl, rfl, rfl, Nat.le_refl _, fun _ _ => rfl⟩)⟩
                              case measure => simp [intOf]; omega
                            | some c =>
                              have e0 : optI (some c) = (c : Int) := rfl
                              rw [e0] at *
                              have t0 : decide ((c : Int) < 0) = false := by simp
                              have HC := hide (bestA_some' (t := t) Ho.out.symm)
                              obtain ⟨dc, hdc⟩ : ∃ dc, dc = dueO ys t (some c) := ⟨_, rfl⟩
                              have Hdc := hide hdc
                              rw [← hdc]
                              clear hdc
                              by_cases hdl : d < dc
                              · have t3 : decide ((d : Int) < (dc : Int)) = true := by simp; omega
                                go_quiet (fail)
                                go_wp2_with fail
                                go_roundw
                                case rel => exact ⟨i + 1, some i, rfl, by rw [show dueO ys t (some i) = d from Hd.out.symm], by go_num, by omega, hide (by rw [HC.out, if_pos ⟨Hlf.out, by rw [← Hd.out]; have := Hdc.out; simp only [dueO] at this; omega⟩]), HU2, hide (HL2.out.trans ⟨rfl, rfl, rfl, Nat.le_refl _, fun _ _ => rfl⟩)⟩
                                case measure => simp [intOf]; omega
                              · have t3 : decide ((d : Int) < (dc : Int)) = false := by simp; omega
                                go_quiet (fail)
                                go_wp2_with fail
                                go_roundw
                                case rel => exact ⟨i + 1, some c, rfl, by rw [← Hdc.out], by go_num, by omega, hide (by rw [HC.out, if_neg (fun h => hdl (by have h2 := h.2; rw [← Hd.out] at h2; have := Hdc.out; simp only [dueO] at this; omega))]), HU2, hide (HL2.out.trans ⟨rfl, rfl, rfl, Nat.le_refl _, fun _ _ => rfl⟩)⟩
                                case measure => simp [intOf]; omega
                          · have g0 : decide (0 < (t : Int)) = true := by simp; omega
                            have g1 : decide (0 < t) = true := by simp; omega
                            have hf := dnP_full (t := t) (M := M) HFit.out (by omega) (by omega) hi (by rw [HP.out]; exact Hm.out)
                            rw [hf, HQ.out] at ua
                            clear hf
                            go_wp2_with fail
                            go_quiet (fail)
                            have HUb : Hid (UAt ((wr.alloc (.cells #[.int .i64 pos, .string sj, .int .u64 q, .int .u64 p] 28)).drewN nq) g ys.length (dnI ys t i)) := HUa
                            have HLb : Hid (Below g w8 ((wr.alloc (.cells #[.int .i64 pos, .string sj, .int .u64 q, .int .u64 p] 28)).drewN nq)) := hide (HLa.out.trans ⟨rfl, rfl, rfl, Nat.le_refl _, fun _ _ => rfl⟩)
                            replace RX : Hid (Row ((wr.alloc (.cells #[.int .i64 pos, .string sj, .int .u64 q, .int .u64 p] 28)).drewN nq) wr.heap.size 28 #[.int .i64 pos, .string sj, .int .u64 q, .int .u64 p]) := RX
                            clear HUa HLa ua a1 n0 n1 n2 n3 c3
                            generalize (wr.alloc (.cells #[.int .i64 pos, .string sj, .int .u64 q, .int .u64 p] 28)).drewN nq = wb at HUb HLb RX ⊢
                            have ub := HUb.out.cell i hi
                            have fb := HUb.out.frozen i
                            have HU2 : Hid (UAt (wb.setCell ⟨g, i, none⟩ (.int .u64 0)) g ys.length (dnI ys t (i + 1))) := hide (HUb.out.set i 0 hi (by rw [dnI_set (by rw [HP.out]; exact Hm.out)]; rfl) (fun j _ e => dnI_other e))
                            have HL2 : Hid (Below g w8 (wb.setCell ⟨g, i, none⟩ (.int .u64 0))) := hide (HLb.out.setCell (Nat.le_refl _) _)
                            have hne : g ≠ wr.heap.size := by omega
                            replace RX : Hid (Row (wb.setCell ⟨g, i, none⟩ (.int .u64 0)) wr.heap.size 28 #[.int .i64 pos, .string sj, .int .u64 q, .int .u64 p]) := hide (RX.out.setCell_ne hne _)
                            go_wp2_with fail
                            clear ub fb HUb HLb g0 g1
                            generalize wb.setCell ⟨g, i, none⟩ (.int .u64 0) = wy at HU2 HL2 RX ⊢
                            have x3 := RX.out.cell (o := 3) rfl
                            go_quiet (fail)
                            replace HU2 : Hid (UAt (wy.drewN nq) g ys.length (dnI ys t (i + 1))) := HU2
                            replace HL2 : Hid (Below g w8 (wy.drewN nq)) := hide (HL2.out.trans ⟨rfl, rfl, rfl, Nat.le_refl _, fun _ _ => rfl⟩)
                            replace RX : Hid (Row (wy.drewN nq) wr.heap.size 28 #[.int .i64 pos, .string sj, .int .u64 q, .int .u64 p]) := RX
                            clear x3
                            generalize wy.drewN nq = wz at HU2 HL2 RX ⊢
                            go_wp2_with fail
                            have x2 := RX.out.cell (o := 2) rfl
                            have uz := HU2.out.cell i hi
                            rw [dnI_set (by rw [HP.out]; exact Hm.out)] at uz
                            have t1 : decide ((0 : Int) < (q : Int)) = true := by simp; omega
                            have t2 : decide (0 < q) = true := by simp; omega
                            have uz' : wz.cell? ⟨g, i, none⟩ = some (.int .u64 0) := uz
                            clear uz
                            cases o with
                            | none =>
                              have e0 : optI none = -1 := rfl
                              rw [e0] at *
                              go_quiet (fail)
                              go_wp2_with fail
                              go_roundw
                              case rel => exact ⟨i + 1, some i, rfl, by rw [show dueO ys t (some i) = d from Hd.out.symm], by go_num, by omega, hide (by rw [bestA_none' Ho.out.symm, if_pos Hlf.out]), HU2, hide (HL2.out.trans ⟨rfl, rfl, rfl, Nat.le_refl _, fun _ _ => rfl⟩)⟩
                              case measure => simp [intOf]; omega
                            | some c =>
                              have e0 : optI (some c) = (c : Int) := rfl
                              rw [e0] at *
                              have t0 : decide ((c : Int) < 0) = false := by simp
                              have HC := hide (bestA_some' (t := t) Ho.out.symm)
                              obtain ⟨dc, hdc⟩ : ∃ dc, dc = dueO ys t (some c) := ⟨_, rfl⟩
                              have Hdc := hide hdc
                              rw [← hdc]
                              clear hdc
                              by_cases hdl : d < dc
                              · have t3 : decide ((d : Int) < (dc : Int)) = true := by simp; omega
                                go_quiet (fail)
                                go_wp2_with fail
                                go_roundw
                                case rel => exact ⟨i + 1, some i, rfl, by rw [show dueO ys t (some i) = d from Hd.out.symm], by go_num, by omega, hide (by rw [HC.out, if_pos ⟨Hlf.out, by rw [← Hd.out]; have := Hdc.out; simp only [dueO] at this; omega⟩]), HU2, hide (HL2.out.trans ⟨rfl, rfl, rfl, Nat.le_refl _, fun _ _ => rfl⟩)⟩
                                case measure => simp [intOf]; omega
                              · have t3 : decide ((d : Int) < (dc : Int)) = false := by simp; omega
                                go_quiet (fail)
                                go_wp2_with fail
                                go_roundw
                                case rel => exact ⟨i + 1, some c, rfl, by rw [← Hdc.out], by go_num, by omega, hide (by rw [HC.out, if_neg (fun h => hdl (by have h2 := h.2; rw [← Hd.out] at h2; have := Hdc.out; simp only [dueO] at this; omega))]), HU2, hide (HL2.out.trans ⟨rfl, rfl, rfl, Nat.le_refl _, fun _ _ => rfl⟩)⟩
                                case measure => simp [intOf]; omega
                        · have a1 : (((t : Int) % (p : Int)) == 0) = false := by rw [beq_eq_false_iff_ne]; intro h; rw [← Int.natCast_emod] at h; omega
                          have Hm := hide hm
                          have HU2 := hide (HUa.out.cong (fun j _ => dnI_keep (by rw [HP.out]; exact hm) j))
                          have HL2 := HLa
                          clear hm
                          obtain ⟨r, hr⟩ : ∃ r, r = dnI ys t (i + 1) i := ⟨_, rfl⟩
                          have Hr := hide hr
                          clear hr
                          go_wp2_with fail
                          clear a1 n0 n1 n2 n3 c3 HUa HLa
                          generalize wr.alloc (.cells #[.int .i64 pos, .string sj, .int .u64 q, .int .u64 p] 28) = wy at HU2 HL2 RX ⊢
                          have x3 := RX.out.cell (o := 3) rfl
                          go_quiet (fail)
                          replace HU2 : Hid (UAt (wy.drewN nq) g ys.length (dnI ys t (i + 1))) := HU2
                          replace HL2 : Hid (Below g w8 (wy.drewN nq)) := hide (HL2.out.trans ⟨rfl, rfl, rfl, Nat.le_refl _, fun _ _ => rfl⟩)
                          replace RX : Hid (Row (wy.drewN nq) wr.heap.size 28 #[.int .i64 pos, .string sj, .int .u64 q, .int .u64 p]) := RX
                          clear x3
                          generalize wy.drewN nq = wz at HU2 HL2 RX ⊢
                          go_wp2_with fail
                          have x2 := RX.out.cell (o := 2) rfl
                          have uz := HU2.out.cell i hi
                          rw [← Hr.out] at uz
                          by_cases hlf : r < q
                          · have t1 : decide ((r : Int) < (q : Int)) = true := by simp; omega
                            have Hlf : Hid (0 < LT.lf (Pf ys) (Bf ys) ys.length t i) := hide ((dnI_left HFit.out hi).1 (by rw [← Hr.out, HQ.out]; exact hlf))
                            cases o with
                            | none =>
                              have e0 : optI none = -1 := rfl
                              rw [e0] at *
                              go_quiet (fail)
                              go_wp2_with fail
                              go_roundw
                              case rel => exact ⟨i + 1, some i, rfl, by rw [show dueO ys t (some i) = d from Hd.out.symm], by go_num, by omega, hide (by rw [bestA_none' Ho.out.symm, if_pos Hlf.out]), HU2, hide (HL2.out.trans ⟨rfl, rfl, rfl, Nat.le_refl _, fun _ _ => rfl⟩)⟩
                              case measure => simp [intOf]; omega
                            | some c =>
                              have e0 : optI (some c) = (c : Int) := rfl
                              rw [e0] at *
                              have t0 : decide ((c : Int) < 0) = false := by simp
                              have HC := hide (bestA_some' (t := t) Ho.out.symm)
                              obtain ⟨dc, hdc⟩ : ∃ dc, dc = dueO ys t (some c) := ⟨_, rfl⟩
                              have Hdc := hide hdc
                              rw [← hdc]
                              clear hdc
                              by_cases hdl : d < dc
                              · have t3 : decide ((d : Int) < (dc : Int)) = true := by simp; omega
                                go_quiet (fail)
                                go_wp2_with fail
                                go_roundw
                                case rel => exact ⟨i + 1, some i, rfl, by rw [show dueO ys t (some i) = d from Hd.out.symm], by go_num, by omega, hide (by rw [HC.out, if_pos ⟨Hlf.out, by rw [← Hd.out]; have := Hdc.out; simp only [dueO] at this; omega⟩]), HU2, hide (HL2.out.trans ⟨rfl, rfl, rfl, Nat.le_refl _, fun _ _ => rfl⟩)⟩
                                case measure => simp [intOf]; omega
                              · have t3 : decide ((d : Int) < (dc : Int)) = false := by simp; omega
                                go_quiet (fail)
                                go_wp2_with fail
                                go_roundw
                                case rel => exact ⟨i + 1, some c, rfl, by rw [← Hdc.out], by go_num, by omega, hide (by rw [HC.out, if_neg (fun h => hdl (by have h2 := h.2; rw [← Hd.out] at h2; have := Hdc.out; simp only [dueO] at this; omega))]), HU2, hide (HL2.out.trans ⟨rfl, rfl, rfl, Nat.le_refl _, fun _ _ => rfl⟩)⟩
                                case measure => simp [intOf]; omega
                          · have t1 : decide ((r : Int) < (q : Int)) = false := by simp; omega
                            have Hlf : Hid (¬ 0 < LT.lf (Pf ys) (Bf ys) ys.length t i) := hide (fun h => hlf (by have := (dnI_left HFit.out hi).2 h; rw [← Hr.out, HQ.out] at this; exact this))
                            cases o with
                            | none =>
                              have e0 : optI none = -1 := rfl
                              rw [e0] at *
                              go_quiet (fail)
                              go_wp2_with fail
                              go_roundw
                              case rel => exact ⟨i + 1, none, rfl, rfl, by go_num, by omega, hide (by rw [bestA_none' Ho.out.symm, if_neg Hlf.out]), HU2, hide (HL2.out.trans ⟨rfl, rfl, rfl, Nat.le_refl _, fun _ _ => rfl⟩)⟩
                              case measure => simp [intOf]; omega
                            | some c =>
                              have e0 : optI (some c) = (c : Int) := rfl
                              rw [e0] at *
                              have t0 : decide ((c : Int) < 0) = false := by simp
                              have HC := hide (bestA_some' (t := t) Ho.out.symm)
                              obtain ⟨dc, hdc⟩ : ∃ dc, dc = dueO ys t (some c) := ⟨_, rfl⟩
                              have Hdc := hide hdc
                              rw [← hdc]
                              clear hdc
                              go_quiet (fail)
                              go_wp2_with fail
                              go_roundw
                              case rel => exact ⟨i + 1, some c, rfl, by rw [← Hdc.out], by go_num, by omega, hide (by rw [HC.out, if_neg (fun h => Hlf.out h.1)]), HU2, hide (HL2.out.trans ⟨rfl, rfl, rfl, Nat.le_refl _, fun _ _ => rfl⟩)⟩
                              case measure => simp [intOf]; omega
                      · obtain rfl : i = ys.length := by omega
                        have HSw := hide (HSl.out.below (by rw [Hg3.out]; exact HL.out))
                        obtain ⟨bs, os, e1, s0, _, _⟩ := HSw.out k hkl
                        cases e1
                        rw [Nat.zero_add, ← Hsn.out] at s0
                        cases o with
                        | none =>
                          have e0 : optI none = -1 := rfl
                          rw [e0] at *
                          have hwn := whoF_none Ho.out.symm
                          have hnm : sn.toList = [] := by rw [Hsn.out, Hname.out, hwn]; exact tE
                          have hnm2 : sn.toList.isEmpty = true := by rw [hnm]; rfl
                          have HU3 := hide (HU.out.cong (fun j hj => dnP_next_none Ho.out.symm j hj))
                          clear hwn
                          go_wp2_with fail
                          go_roundw
                          case rel => exact ⟨k, t + 1, rfl, by go_num, by omega, by omega, hide (fun j h hj => by have := HKb.out j h hj; omega), HU3, HL⟩
                          case measure => simp [intOf]; omega
                        | some c =>
                          have e0 : optI (some c) = (c : Int) := rfl
                          rw [e0] at *
                          have hc := bestA_lt ys Ho.out.symm
                          have hwn := whoF_some Ho.out.symm
                          rw [show ys.getD c .zero = ys[c] by simp [List.getD, hc]] at hwn
                          obtain ⟨b1, off1, hA1, n0, n1, n2, n3⟩ := HX.out.runs c hc
                          subst hA1
                          obtain ⟨sc, hsc⟩ : ∃ sc, sc = ys[c].subj := ⟨_, rfl⟩
                          rw [← hsc] at n1 hwn
                          have heq : (sn.toList == sc.toList) = true := by rw [beq_iff_eq, Hsn.out, Hname.out, hwn]
                          have heq2 : (sn.toList != sc.toList) = false := by rw [bne_eq_false_iff_eq]; exact eq_of_beq heq
                          have uc := HU.out.cell c hc
                          have uf := HU.out.frozen c
                          have hul := dnI_le (xs := ys) t ys.length c
                          have hbq : Bf ys c ≤ 65536 := by
                            obtain ⟨f1, f2, f3, _⟩ := HFit.out.ok c hc
                            omega
                          obtain ⟨r, hr⟩ : ∃ r, r = dnI ys t ys.length c := ⟨_, rfl⟩
                          rw [← hr] at uc hul
                          have HU3 : Hid (UAt (wr.setCell ⟨g, c, none⟩ (.int .u64 ((r : Int) + 1))) g ys.length (dnP ys (t + 1))) := hide (HU.out.set c _ hc (by rw [dnP_next_some Ho.out.symm c hc, if_pos rfl, ← hr]; rfl) (fun j hj e => by rw [dnP_next_some Ho.out.symm j hj, if_neg e]))
                          clear n0 n2 n3 hsc hwn hr
                          go_wp2_with fail
                          go_quiet (fail)
                          have uc' : (wr.drewN nq).cell? ⟨g, c, none⟩ = some (.int .u64 (r : Int)) := uc
                          have uf' : (wr.drewN nq).frozen? ⟨g, c, none⟩ = false := uf
                          have HU4 : Hid (UAt ((wr.drewN nq).setCell ⟨g, c, none⟩ (.int .u64 ((r : Int) + 1))) g ys.length (dnP ys (t + 1))) := HU3
                          have HL4 : Hid (Below g w8 ((wr.drewN nq).setCell ⟨g, c, none⟩ (.int .u64 ((r : Int) + 1)))) := hide ((HL.out.trans (show Below g wr (wr.drewN nq) from ⟨rfl, rfl, rfl, Nat.le_refl _, fun _ _ => rfl⟩)).setCell (Nat.le_refl _) _)
                          clear uc uf
                          go_wp2_with fail
                          go_roundw
                          case rel => exact ⟨k, t + 1, rfl, by go_num, by omega, by omega, hide (fun j h hj => by have := HKb.out j h hj; omega), HU4, HL4⟩
                          case measure => simp [intOf]; omega
              · obtain rfl : t = M := by omega
                go_wp2_with fail
                go_loopw [19] (fun v19 wq => ∃ (i : Nat), v19 = .int .i64 i ∧ i ≤ ys.length ∧ Hid (UAt wq g ys.length (dnP ys t)) ∧ Hid (Below g w8 wq)) (fun v _ => ys.length - (intOf v).toNat)
                case atStart => exact ⟨0, rfl, Nat.zero_le _, HU, HL⟩
                case round =>
                  clear HU HL HX HSw
                  obtain ⟨i, rfl, hi', HU, HL⟩ := hrel
                  have HX := hide (HX8.out.on (by rw [Hg3.out]; exact HL.out))
                  have c3 := HX.out.row.cell (o := 3) rfl
                  by_cases hi : i < ys.length
                  · obtain ⟨b1, off1, hA1, n0, n1, n2, n3⟩ := HX.out.runs i hi
                    subst hA1
                    have hf := dnP_full HFit.out (by omega) (Nat.le_refl _) hi (HFit.out.ok i hi).2.2.2
                    have hbv : ys[i].budget = (Bf ys i : Int) := by
                      have := (HFit.out.nat i hi).2
                      rw [show ys.getD i .zero = ys[i] by simp [List.getD, hi]] at this
                      exact this
                    rw [hbv] at n2
                    have uc := HU.out.cell i hi
                    rw [hf] at uc
                    obtain ⟨q, hq⟩ : ∃ q, q = Bf ys i := ⟨_, rfl⟩
                    rw [← hq] at uc n2
                    have hqq : ((q : Int) != (q : Int)) = false := by simp
                    clear n0 n1 n3 hf hbv hq
                    go_wp2_with fail
                    go_quiet (fail)
                    go_wp2_with fail
                    go_roundw
                    case rel => exact ⟨i + 1, by go_num, by omega, HU, hide (HL.out.trans ⟨rfl, rfl, rfl, Nat.le_refl _, fun _ _ => rfl⟩)⟩
                    case measure => simp [intOf]; omega
                  · go_wp2_with fail
                    refine (HK.out _).mono ?_
                    rintro e w9 ⟨rfl, hb9⟩
                    have HB9 : Hid (Below w.heap.size w w9) := hide (HX.out.bel.trans (hb9.mono (by have := HX.out.sz; omega)))
                    clear hb9
                    go_wp2_with fail
                    go_ret
                    exact ⟨rfl, HB9.out⟩
end LA
end Go.Proofs.Ytenfikfgliljmaa
