/- bulkheadlaw9.LanesRuns returns true. -/
import Derived.Test.YtenfikfgliljmaaKF
import Derived.Test.YtenfikfgliljmaaPR
namespace Go.Proofs.Ytenfikfgliljmaa
open Go.RowKit
namespace LA
set_option maxHeartbeats 12800000 in
set_option maxRecDepth 100000 in
theorem lanesRuns_any (major lp lc : Int) (needs : Bool) (A : Option Addr) (cap0 : Nat) (xs : List Need) (w : World) (hm0 : 0 ≤ major) (hm1 : major ≤ 18446744073709551615) (hn : xs.length ≤ 9223372036854775807) (hr : RunsAt w A xs) (hok : ∀ x, x ∈ xs → x.ok) :
    Calls Try.prog 9 #[.int .u64 major, laneV lp lc needs A xs.length cap0] w (TruePost w) := by
  obtain ⟨M, rfl⟩ := Int.eq_ofNat_of_zero_le hm0
  have r0 := Row.alloc_new w #[.int .i64 lp, .int .u64 lc, .bool false, .slice A xs.length cap0] 31
  have HB0 := hide ((Below.refl w.heap.size w).alloc (Nat.le_refl _) (.cells #[.int .i64 lp, .int .u64 lc, .bool false, .slice A xs.length cap0] 31))
  have HR1 := hide (hr.below HB0.out)
  have R0 := hide r0
  have HO := hide hok
  have HK := hide known_any
  clear hr r0 hok
  go_enter Try.func9, Try.ntmps9
  by_cases h1 : 65536 < (M : Int)
  · skip
    go_wp2_with fail
    refine (HK.out _).mono ?_
    rintro e w9 ⟨rfl, hb9⟩
    have HB9 : Hid (Below w.heap.size w w9) := hide (HB0.out.trans (hb9.mono (by have := HB0.out.size; omega)))
    clear hb9
    go_wp2_with fail
    go_ret
    exact ⟨rfl, HB9.out⟩
  by_cases h2 : 5000 < xs.length
  · skip
    go_wp2_with fail
    refine (HK.out _).mono ?_
    rintro e w9 ⟨rfl, hb9⟩
    have HB9 : Hid (Below w.heap.size w w9) := hide (HB0.out.trans (hb9.mono (by have := HB0.out.size; omega)))
    clear hb9
    go_wp2_with fail
    go_ret
    exact ⟨rfl, HB9.out⟩
  go_wp2_with fail
  generalize w.alloc (.cells #[.int .i64 lp, .int .u64 lc, .bool false, .slice A xs.length cap0] 31) = w1 at HB0 HR1 R0 ⊢
  have lw := R0.out.lt
  go_loop [5, 6] (fun v5 v6 => ∃ (k : Nat) (s : Int), v5 = .int .u64 s ∧ v6 = .int .i64 k ∧ k ≤ xs.length ∧ 0 ≤ s ∧ s ≤ 65536 * k ∧ Hid (s = sumW (M : Int) false (xs.take k)) ∧ Hid (∀ j (h : j < xs.length), j < k → 1 ≤ xs[j].budget ∧ xs[j].budget ≤ M)) (fun _ v => xs.length - (intOf v).toNat)
  case atStart => exact ⟨0, 0, rfl, rfl, Nat.zero_le _, by omega, by omega, hide rfl, hide (fun j h hj => absurd hj (Nat.not_lt_zero j))⟩
  case round =>
    obtain ⟨k, s, rfl, rfl, hk, hs0, hs1, HS, HN⟩ := hrel
    have c3 := R0.out.cell (o := 3) rfl
    by_cases hlt : k < xs.length
    · obtain ⟨b, off, hA, n0, n1, n2, n3⟩ := HR1.out k hlt
      subst hA
      obtain ⟨q, hq⟩ : ∃ q, q = xs[k].budget := ⟨_, rfl⟩
      rw [← hq] at n2
      have hb := HO.out xs[k] (List.getElem_mem hlt)
      have hb0 := hb.b0; have hb1 := hb.b1
      rw [← hq] at hb0 hb1
      have Hq := hide hq
      clear n0 n1 n3 hq hb
      by_cases a1 : q < 1
      · skip
        go_wp2_with fail
        refine (HK.out _).mono ?_
        rintro e w9 ⟨rfl, hb9⟩
        have HB9 : Hid (Below w.heap.size w w9) := hide (HB0.out.trans (hb9.mono (by have := HB0.out.size; omega)))
        clear hb9
        go_wp2_with fail
        go_ret
        exact ⟨rfl, HB9.out⟩
      by_cases a2 : (M : Int) < q
      · skip
        go_wp2_with fail
        refine (HK.out _).mono ?_
        rintro e w9 ⟨rfl, hb9⟩
        have HB9 : Hid (Below w.heap.size w w9) := hide (HB0.out.trans (hb9.mono (by have := HB0.out.size; omega)))
        clear hb9
        go_wp2_with fail
        go_ret
        exact ⟨rfl, HB9.out⟩
      have HSn : Hid (s + q = sumW (M : Int) false (xs.take (k + 1))) := hide (by
        rw [List.take_succ_eq_append_getElem hlt, sumW_append, ← HS.out, Hq.out]; simp [sumW, wantsC])
      have HNn : Hid (∀ j (h : j < xs.length), j < k + 1 → 1 ≤ xs[j].budget ∧ xs[j].budget ≤ M) := hide (fun j h hj => by
        by_cases e : j = k
        · subst e; rw [← Hq.out]; omega
        · exact HN.out j h (by omega))
      go_wp2_with fail
      go_round
      case rel => exact ⟨k + 1, s + q, by go_num, by go_num, by omega, by omega, by omega, HSn, HNn⟩
      case measure => simp [intOf]; omega
    · obtain rfl : k = xs.length := by omega
      have hnums : ∀ y, y ∈ xs → 1 ≤ y.budget ∧ y.budget ≤ M := fun y hy => by
        obtain ⟨i, h, rfl⟩ := List.mem_iff_getElem.1 hy
        exact HN.out i h h
      have Hnums := hide hnums
      have hsum := HS.out
      rw [List.take_length] at hsum
      have hfl := flat_runs (M := M) (xs := xs) (by omega) hnums
      have HF := hide (flatten_any (M : Int) lp lc false A cap0 xs w1 (by omega) hm1 (by omega) HR1.out HO.out)
      have c0 := R0.out.cell (o := 0) rfl
      have c1 := R0.out.cell (o := 1) rfl
      have c2 := R0.out.cell (o := 2) rfl
      by_cases hM0 : M = 0
      · obtain ⟨hx0, hf0⟩ := hfl.1 hM0
        have hs00 : s = 0 := by rw [hsum, hx0]; rfl
        have Hf0 := hide hf0
        have Hx0 := hide hx0
        have hms : ¬ ((M : Int) < s) := by omega
        have dms : decide ((M : Int) < s) = false := by simp; omega
        have HM0 := hide hM0
        have Hs00 := hide hs00
        clear hfl hnums hsum hf0 hx0 hM0 hs00
        go_wp2_with fail
        refine HF.out.mono ?_
        intro e w8 hp8
        obtain ⟨v, rfl, hv, hb⟩ := flat_at Hf0.out hp8
        obtain rfl := sval_none hv
        have HB8 : Hid (Below w.heap.size w w8) := hide (HB0.out.trans (hb.mono (by omega)))
        clear hv hb hp8 c0 c1 c2 c3
        go_wp2_with fail
        refine (HK.out _).mono ?_
        rintro e w9 ⟨rfl, hb9⟩
        have HB9 : Hid (Below w.heap.size w w9) := hide (HB8.out.trans (hb9.mono (by have := HB8.out.size; omega)))
        clear hb9
        go_wp2_with fail
        go_ret
        exact ⟨rfl, HB9.out⟩
      by_cases hsm : (M : Int) < s
      · obtain ⟨j, hfj⟩ := hfl.2.2 (by rw [← hsum]; exact hsm)
        have Hfj := hide hfj
        have dms : decide ((M : Int) < s) = true := by simp; omega
        clear hfl hnums hsum hfj
        go_wp2_with fail
        refine HF.out.mono ?_
        intro e w8 hp8
        obtain ⟨v, rfl, hv, hb⟩ := flat_at Hfj.out hp8
        obtain rfl := sval_none hv
        have HB8 : Hid (Below w.heap.size w w8) := hide (HB0.out.trans (hb.mono (by omega)))
        clear hv hb hp8 c0 c1 c2 c3
        go_wp2_with fail
        refine (HK.out _).mono ?_
        rintro e w9 ⟨rfl, hb9⟩
        have HB9 : Hid (Below w.heap.size w w9) := hide (HB8.out.trans (hb9.mono (by have := HB8.out.size; omega)))
        clear hb9
        go_wp2_with fail
        go_ret
        exact ⟨rfl, HB9.out⟩
      have hfl2 := hfl.2.1 (by omega) (by rw [← hsum]; omega)
      have dms : decide ((M : Int) < s) = false := by simp; omega
      by_cases hbig : 4096 < (flatRow M xs false).length
      · rw [if_pos hbig] at hfl2
        have Hf2 := hide hfl2
        clear hfl hnums hsum hfl2
        go_wp2_with fail
        refine HF.out.mono ?_
        intro e w8 hp8
        obtain ⟨v, rfl, hv, hb⟩ := flat_at Hf2.out hp8
        obtain rfl := sval_none hv
        have HB8 : Hid (Below w.heap.size w w8) := hide (HB0.out.trans (hb.mono (by omega)))
        clear hv hb hp8 c0 c1 c2 c3
        go_wp2_with fail
        refine (HK.out _).mono ?_
        rintro e w9 ⟨rfl, hb9⟩
        have HB9 : Hid (Below w.heap.size w w9) := hide (HB8.out.trans (hb9.mono (by have := HB8.out.size; omega)))
        clear hb9
        go_wp2_with fail
        go_ret
        exact ⟨rfl, HB9.out⟩
      rw [if_neg hbig] at hfl2
      have Hf2 := hide hfl2
      have hp : ∀ x, x ∈ xs → 1 ≤ x.budget := fun x hx => (hnums x hx).1
      have hrl := runsTicks_len xs 0 (M : Int) hp
      have HTl := hide (ticks_len (M := M) (xs := xs) (needs := false) hp (fun _ => by omega))
      have hnm := flat_names (M := M) (xs := xs) (needs := false) hp (fun _ => by omega)
      obtain ⟨TT, hTT⟩ : ∃ TT, TT = ticksL M xs false := ⟨_, rfl⟩
      have HTT := hide hTT
      rw [← hTT] at hnm HTl
      obtain ⟨NN, hNN⟩ : ∃ NN, NN = TT.map (nameOf xs) := ⟨_, rfl⟩
      have hNl : NN.length = M := by rw [hNN, List.length_map, HTl.out]
      have HNl := hide hNl
      have HNg : Hid (∀ t (h : t < NN.length) (h' : t < TT.length), NN[t] = nameOf xs TT[t]) := hide (fun t h h' => by subst hNN; simp)
      obtain ⟨row, hrow⟩ : ∃ row, row = flatRow M xs false := ⟨_, rfl⟩
      rw [← hrow] at hbig Hf2 hnm
      have HTR : Hid (TickRow M NN row) := hide (by
        rw [hnm, ← hNN]
        have := tickRow NN (by omega)
        rwa [hNl] at this)
      have hpos : 0 < row.length := by
        rw [hnm, ← hNN]
        cases hl : (rowTk NN) with
        | nil => have := (rowTk_facts NN).2.2; rw [hl] at this; simp only [endFrom] at this; omega
        | cons y r => simp
      have hoff : (runsTicks 0 xs).length ≤ M := by omega
      have Hhp := hide hp
      clear hfl hnums hsum hfl2 hrow hNN hTT hnm hrl hp hNl
      go_wp2_with fail
      refine HF.out.mono ?_
      intro e w8 hp8
      obtain ⟨v, rfl, hv, hb⟩ := flat_at Hf2.out hp8
      obtain ⟨gs, ks, rfl, hgs, hsl⟩ := sval_some hv hpos
      have R8 : Hid (Row w8 w.heap.size 31 #[.int .i64 lp, .int .u64 lc, .bool false, .slice A xs.length cap0]) := hide ((hb.block _ lw).trans R0.out)
      have HR8 := hide (HR1.out.below hb)
      have HSl := hide hsl
      have HB8 : Hid (Below w.heap.size w w8) := hide (HB0.out.trans (hb.mono (by omega)))
      have lw8 := R8.out.lt
      clear hv hb hp8 c0 c1 c2 c3 hsl
      have m0 : 0 ≤ (M : Int) * (row.length : Int) := Int.mul_nonneg (by omega) (by omega)
      have m1 : (M : Int) * (row.length : Int) ≤ 65536 * 4096 := Int.mul_le_mul (by omega) (by omega) (by omega) (by omega)
      have mw : IntKind.i64.wrap ((M : Int) * (row.length : Int)) = (M : Int) * (row.length : Int) := IntWalk.i64_in _ (by omega)
      obtain ⟨st, hst⟩ : ∃ st : Nat, (st : Int) = 1 + (M : Int) * (row.length : Int) / 2000000 := ⟨(1 + (M : Int) * (row.length : Int) / 2000000).toNat, by omega⟩
      have hst1 : 1 ≤ st := by omega
      have hst2 : st ≤ 1000 := by omega
      have Hst := hide hst
      have HSc : Hid (∀ W (t : Nat), t < M → SlotsAt W (some ⟨gs, 0, none⟩) row → Calls Try.prog 17 #[.slice (some ⟨gs, 0, none⟩) row.length ks, .int .i64 t] W fun e w' => e = .returned (.tuple #[.string (findAt (t : Int) row).1, .int .i64 (findAt (t : Int) row).2]) ∧ Below W.heap.size W w') := hide (fun W t ht h => by
        have := sched_any (some ⟨gs, 0, none⟩) ks row (t : Int) W (by omega) h HTR.out.ok
        rwa [sched_tick HTR.out ht] at this)
      clear hst
      go_wp2_with fail
      rw [← Hst.out]
      clear m0 m1 mw
      go_loopw [10, 12, 13, 14] (fun v10 v12 v13 v14 wr => ∃ (i t : Nat) (b : ByteArray) (l : Int), v10 = .int .i64 t ∧ v12 = .string b ∧ v13 = .int .i64 l ∧ v14 = .int .i64 i ∧ i ≤ xs.length + 1 ∧ t ≤ M ∧ 0 ≤ l ∧ l ≤ M ∧ Hid ((i ≤ xs.length ∧ t = offN xs i) ∨ (i = xs.length + 1 ∧ t = M)) ∧ Hid (LeftOk st t row b l) ∧ Hid (Below w8.heap.size w8 wr)) (fun _ _ _ v _ => xs.length + 1 - (intOf v).toNat)
      case atStart => exact ⟨0, 0, ⟨#[]⟩, 0, rfl, rfl, rfl, rfl, Nat.zero_le _, Nat.zero_le _, by omega, by omega, hide (.inl ⟨Nat.zero_le _, rfl⟩), hide (fun _ => .inl ⟨rfl, rfl⟩), hide (Below.refl _ _)⟩
      case round =>
        obtain ⟨i, t, b, l, rfl, rfl, rfl, rfl, hi, ht, hl0, hl1, HT, HLf, HL⟩ := hrel
        have HBw : Hid (Below w.heap.size w wr) := hide (HB8.out.trans (HL.out.mono (by omega)))
        have Rw : Hid (Row wr w.heap.size 31 #[.int .i64 lp, .int .u64 lc, .bool false, .slice A xs.length cap0]) := hide ((HL.out.block _ lw8).trans R8.out)
        have HRw := hide (HR8.out.below HL.out)
        have c3 := Rw.out.cell (o := 3) rfl
        by_cases hlt : i < xs.length
        · have htt : t = offN xs i := by rcases HT.out with h | h <;> omega
          obtain ⟨b1, off, hA, n0, n1, n2, n3⟩ := HRw.out i hlt
          subst hA
          obtain ⟨s1, hs1'⟩ : ∃ s1, s1 = xs[i].subj := ⟨_, rfl⟩
          rw [← hs1'] at n1
          obtain ⟨B, hB⟩ := Int.eq_ofNat_of_zero_le (show 0 ≤ xs[i].budget by have := Hhp.out _ (List.getElem_mem hlt); omega)
          rw [hB] at n2
          have hol := offN_le hlt
          have hos := offN_succ hlt
          have hBn : xs[i].budget.toNat = B := by omega
          rw [hBn] at hos
          have hb9 := (Hnums.out _ (List.getElem_mem hlt)).2
          rw [hB] at hb9
          have Hos := hide hos
          obtain ⟨o1, ho1⟩ : ∃ o1, o1 = offN xs i := ⟨_, rfl⟩
          have hoB : o1 + B ≤ M := by omega
          have HNm : Hid (∀ j, j < B → ∀ h : o1 + j < NN.length, NN[o1 + j].toList = s1.toList) := hide (fun j hj h => by
            subst ho1
            have h2 : offN xs i + j < (ticksL M xs false).length := by rw [← HTT.out, HTl.out]; rw [HNl.out] at h; exact h
            rw [HNg.out _ h (by rw [HTT.out]; exact h2)]
            have h3 : TT[offN xs i + j]'(by rw [HTT.out]; exact h2) = (i : Int) := by
              have := run_tick hlt (by rw [hBn]; exact hj) h2
              have e := HTT.out
              subst e
              exact this
            rw [h3]
            unfold nameOf
            rw [if_neg (by omega), hs1']
            simp [List.getD, hlt])
          obtain rfl : t = o1 := by omega
          have Ho1 := hide ho1
          clear n0 n3 hs1' hB hol hos hBn htt ho1
          have d14 : decide (i ≤ xs.length) = true := by simp; omega
          have d15 : decide ((i : Int) ≤ (xs.length : Int)) = true := by simp; omega
          go_wp2_with fail
          clear c3 n1 n2
          go_loopw [10, 12, 13, 17] (fun v10 v12 v13 v17 wr => ∃ (j t2 : Nat) (b : ByteArray) (l : Int), v10 = .int .i64 t2 ∧ v12 = .string b ∧ v13 = .int .i64 l ∧ v17 = .int .i64 j ∧ t2 = t + j ∧ j ≤ B ∧ 0 ≤ l ∧ l ≤ M ∧ Hid (LeftOk st t2 row b l) ∧ Hid (Below w8.heap.size w8 wr)) (fun _ _ _ v _ => B - (intOf v).toNat)
          case atStart => exact ⟨0, t, b, l, rfl, rfl, rfl, rfl, rfl, Nat.zero_le _, hl0, hl1, HLf, HL⟩
          case round =>
            clear HL HLf HBw Rw HRw hl0 hl1
            obtain ⟨j, t2, b, l, rfl, rfl, rfl, rfl, ht2, hj, hl0, hl1, HLf, HL⟩ := hrel
            have HSw := hide (HSl.out.below HL.out)
            by_cases hjl : j < B
            · have hnm : NN[t + j]'(by rw [HNl.out]; omega) = NN[t + j]'(by rw [HNl.out]; omega) := rfl
              obtain ⟨f1, f2, f3⟩ := HTR.out.find t2 (by rw [HNl.out]; omega)
              have f4 := HNm.out j hjl (by rw [HNl.out]; omega)
              have f5 : (findAt (t2 : Int) row).1.toList = s1.toList := by rw [f1]; subst ht2; exact f4
              have hcall := HSc.out wr t2 (by omega) HSw.out
              have HLs : Hid (LeftOk st (t2 + 1) row (findAt (t2 : Int) row).1 (findAt (t2 : Int) row).2) := hide LeftOk.step
              have HLn : Hid (1 < l → st = 1 → findAt (t2 : Int) row = (b, l - 1)) := hide (fun h e => by have := HLf.out; subst e; exact this.next h)
              obtain ⟨ff, hff⟩ : ∃ ff, ff = findAt (t2 : Int) row := ⟨_, rfl⟩
              rw [← hff] at f2 f3 f5 hcall HLs HLn
              obtain ⟨who, more⟩ := ff
              simp only at f2 f3 f5
              have Hcall := hide hcall
              have Hff := hide hff
              have Ht2 := hide ht2
              have ht2M : t2 < M := by omega
              have g1 : (who.toList == s1.toList) = true := by rw [beq_iff_eq]; exact f5
              have g2 : (who.toList != s1.toList) = false := by rw [bne_eq_false_iff_eq]; exact f5
              clear f1 f4 f5 hcall hff ht2 hnm
              by_cases hmod : t2 % st = 0
              · have gm : (((t2 : Int) % (st : Int)) == 0) = true := by rw [beq_iff_eq, ← Int.natCast_emod, hmod]; rfl
                clear hmod
                by_cases hs1 : st = 1
                · have ge : ((st : Int) == 1) = true := by rw [beq_iff_eq]; omega
                  by_cases hll : 1 < l
                  · have hx := HLn.out hll hs1
                    obtain ⟨rfl, rfl⟩ := Prod.mk.inj hx
                    have ge2 : ((l - 1) != (l - 1)) = false := by simp
                    have ge3 : (who.toList != who.toList) = false := by simp
                    have ge4 : (who.toList == who.toList) = true := by simp
                    have Hs1e := hide hs1
                    clear hs1 hx
                    go_wp2_with fail
                    refine Hcall.out.mono ?_
                    rintro e w7 ⟨rfl, hb7⟩
                    have HL7 := hide (HL.out.trans (hb7.mono HL.out.size))
                    clear hb7
                    go_wp2_with fail
                    go_roundw
                    case rel => exact ⟨j + 1, t2 + 1, _, _, by go_num, rfl, rfl, by go_num, by have := Ht2.out; omega, by omega, by omega, by omega, HLs, HL7⟩
                    case measure => simp [intOf]; omega
                  · have Hs1e := hide hs1
                    clear hs1
                    go_wp2_with fail
                    refine Hcall.out.mono ?_
                    rintro e w7 ⟨rfl, hb7⟩
                    have HL7 := hide (HL.out.trans (hb7.mono HL.out.size))
                    clear hb7
                    go_wp2_with fail
                    go_roundw
                    case rel => exact ⟨j + 1, t2 + 1, _, _, by go_num, rfl, rfl, by go_num, by have := Ht2.out; omega, by omega, by omega, by omega, HLs, HL7⟩
                    case measure => simp [intOf]; omega
                · have ge : ((st : Int) == 1) = false := by rw [beq_eq_false_iff_ne]; omega
                  have Hs1e := hide hs1
                  clear hs1
                  go_wp2_with fail
                  refine Hcall.out.mono ?_
                  rintro e w7 ⟨rfl, hb7⟩
                  have HL7 := hide (HL.out.trans (hb7.mono HL.out.size))
                  clear hb7
                  go_wp2_with fail
                  go_roundw
                  case rel => exact ⟨j + 1, t2 + 1, _, _, by go_num, rfl, rfl, by go_num, by have := Ht2.out; omega, by omega, by omega, by omega, HLs, HL7⟩
                  case measure => simp [intOf]; omega
              · have gm : (((t2 : Int) % (st : Int)) == 0) = false := by rw [beq_eq_false_iff_ne, ← Int.natCast_emod]; omega
                have hne : st ≠ 1 := fun e => hmod (by subst e; exact Nat.mod_one _)
                have Hne := hide hne
                clear hmod hne
                go_wp2_with fail
                go_roundw
                case rel => exact ⟨j + 1, t2 + 1, b, l, by go_num, rfl, rfl, by go_num, by have := Ht2.out; omega, by omega, hl0, hl1, hide (LeftOk.skip Hne.out), HL⟩
                case measure => simp [intOf]; omega
            · obtain rfl : j = B := by omega
              go_wp2_with fail
              go_roundw
              case rel => exact ⟨i + 1, t2, b, l, rfl, rfl, rfl, by go_num, by omega, by omega, hl0, hl1, hide (.inl ⟨by omega, by rw [Hos.out, ← Ho1.out]; exact ht2⟩), HLf, HL⟩
              case measure => first | (simp [intOf]; omega) | simp [intOf]
        · by_cases hie : i = xs.length
          · obtain rfl := hie
            have htt : t = offN xs xs.length := by rcases HT.out with h | h <;> omega
            rw [offN_all] at htt
            obtain ⟨B, hB⟩ : ∃ B : Nat, (B : Int) = (M : Int) - t := ⟨M - t, by omega⟩
            have hoB : t + B ≤ M := by omega
            have hmt : (M : Int) - (t : Int) = (B : Int) := hB.symm
            obtain ⟨s1, hs1'⟩ : ∃ s1, s1 = (⟨#[]⟩ : ByteArray) := ⟨_, rfl⟩
            have HNm : Hid (∀ j, j < B → ∀ h : t + j < NN.length, NN[t + j].toList = s1.toList) := hide (fun j hj h => by
              have h2 : t + j < (ticksL M xs false).length := by rw [← HTT.out, HTl.out]; rw [HNl.out] at h; exact h
              rw [HNg.out _ h (by rw [HTT.out]; exact h2)]
              have h3 : TT[t + j]'(by rw [HTT.out]; exact h2) = -1 := by
                have := idle_tick (M := M) (xs := xs) (t := t + j) (by omega) h2
                have e := HTT.out
                subst e
                exact this
              rw [h3, hs1']
              unfold nameOf
              rw [if_pos (by omega)])
            have Hs1 := hide hs1'
            have HtB := hide hB
            clear htt hB hs1'
            go_upto_region 26 with fail
            clear c3 hmt
            rw [← Hs1.out]
            go_wp2_with fail
            go_loopw [10, 12, 13, 17] (fun v10 v12 v13 v17 wr => ∃ (j t2 : Nat) (b : ByteArray) (l : Int), v10 = .int .i64 t2 ∧ v12 = .string b ∧ v13 = .int .i64 l ∧ v17 = .int .i64 j ∧ t2 = t + j ∧ j ≤ B ∧ 0 ≤ l ∧ l ≤ M ∧ Hid (LeftOk st t2 row b l) ∧ Hid (Below w8.heap.size w8 wr)) (fun _ _ _ v _ => B - (intOf v).toNat)
            case atStart => exact ⟨0, t, b, l, rfl, rfl, rfl, rfl, rfl, Nat.zero_le _, hl0, hl1, HLf, HL⟩
            case round =>
              clear HL HLf HBw Rw HRw hl0 hl1
              obtain ⟨j, t2, b, l, rfl, rfl, rfl, rfl, ht2, hj, hl0, hl1, HLf, HL⟩ := hrel
              have HSw := hide (HSl.out.below HL.out)
              by_cases hjl : j < B
              · have hnm : NN[t + j]'(by rw [HNl.out]; omega) = NN[t + j]'(by rw [HNl.out]; omega) := rfl
                obtain ⟨f1, f2, f3⟩ := HTR.out.find t2 (by rw [HNl.out]; omega)
                have f4 := HNm.out j hjl (by rw [HNl.out]; omega)
                have f5 : (findAt (t2 : Int) row).1.toList = s1.toList := by rw [f1]; subst ht2; exact f4
                have hcall := HSc.out wr t2 (by omega) HSw.out
                have HLs : Hid (LeftOk st (t2 + 1) row (findAt (t2 : Int) row).1 (findAt (t2 : Int) row).2) := hide LeftOk.step
                have HLn : Hid (1 < l → st = 1 → findAt (t2 : Int) row = (b, l - 1)) := hide (fun h e => by have := HLf.out; subst e; exact this.next h)
                obtain ⟨ff, hff⟩ : ∃ ff, ff = findAt (t2 : Int) row := ⟨_, rfl⟩
                rw [← hff] at f2 f3 f5 hcall HLs HLn
                obtain ⟨who, more⟩ := ff
                simp only at f2 f3 f5
                have Hcall := hide hcall
                have Hff := hide hff
                have Ht2 := hide ht2
                have ht2M : t2 < M := by omega
                have g1 : (who.toList == s1.toList) = true := by rw [beq_iff_eq]; exact f5
                have g2 : (who.toList != s1.toList) = false := by rw [bne_eq_false_iff_eq]; exact f5
                clear f1 f4 f5 hcall hff ht2 hnm
                by_cases hmod : t2 % st = 0
                · have gm : (((t2 : Int) % (st : Int)) == 0) = true := by rw [beq_iff_eq, ← Int.natCast_emod, hmod]; rfl
                  clear hmod
                  by_cases hs1 : st = 1
                  · have ge : ((st : Int) == 1) = true := by rw [beq_iff_eq]; omega
                    by_cases hll : 1 < l
                    · have hx := HLn.out hll hs1
                      obtain ⟨rfl, rfl⟩ := Prod.mk.inj hx
                      have ge2 : ((l - 1) != (l - 1)) = false := by simp
                      have ge3 : (who.toList != who.toList) = false := by simp
                      have ge4 : (who.toList == who.toList) = true := by simp
                      have Hs1e := hide hs1
                      clear hs1 hx
                      go_wp2_with fail
                      refine Hcall.out.mono ?_
                      rintro e w7 ⟨rfl, hb7⟩
                      have HL7 := hide (HL.out.trans (hb7.mono HL.out.size))
                      clear hb7
                      go_wp2_with fail
                      go_roundw
                      case rel => exact ⟨j + 1, t2 + 1, _, _, by go_num, rfl, rfl, by go_num, by have := Ht2.out; omega, by omega, by omega, by omega, HLs, HL7⟩
                      case measure => simp [intOf]; omega
                    · have Hs1e := hide hs1
                      clear hs1
                      go_wp2_with fail
                      refine Hcall.out.mono ?_
                      rintro e w7 ⟨rfl, hb7⟩
                      have HL7 := hide (HL.out.trans (hb7.mono HL.out.size))
                      clear hb7
                      go_wp2_with fail
                      go_roundw
                      case rel => exact ⟨j + 1, t2 + 1, _, _, by go_num, rfl, rfl, by go_num, by have := Ht2.out; omega, by omega, by omega, by omega, HLs, HL7⟩
                      case measure => simp [intOf]; omega
                  · have ge : ((st : Int) == 1) = false := by rw [beq_eq_false_iff_ne]; omega
                    have Hs1e := hide hs1
                    clear hs1
                    go_wp2_with fail
                    refine Hcall.out.mono ?_
                    rintro e w7 ⟨rfl, hb7⟩
                    have HL7 := hide (HL.out.trans (hb7.mono HL.out.size))
                    clear hb7
                    go_wp2_with fail
                    go_roundw
                    case rel => exact ⟨j + 1, t2 + 1, _, _, by go_num, rfl, rfl, by go_num, by have := Ht2.out; omega, by omega, by omega, by omega, HLs, HL7⟩
                    case measure => simp [intOf]; omega
                · have gm : (((t2 : Int) % (st : Int)) == 0) = false := by rw [beq_eq_false_iff_ne, ← Int.natCast_emod]; omega
                  have hne : st ≠ 1 := fun e => hmod (by subst e; exact Nat.mod_one _)
                  have Hne := hide hne
                  clear hmod hne
                  go_wp2_with fail
                  go_roundw
                  case rel => exact ⟨j + 1, t2 + 1, b, l, by go_num, rfl, rfl, by go_num, by have := Ht2.out; omega, by omega, hl0, hl1, hide (LeftOk.skip Hne.out), HL⟩
                  case measure => simp [intOf]; omega
              · obtain rfl : j = B := by omega
                go_wp2_with fail
                go_roundw
                case rel => exact ⟨xs.length + 1, t2, b, l, rfl, rfl, rfl, by go_num, by omega, by have := HtB.out; omega, hl0, hl1, hide (.inr ⟨rfl, by have := HtB.out; omega⟩), HLf, HL⟩
                case measure => first | (simp [intOf]; omega) | simp [intOf]
          · have htM : t = M := by rcases HT.out with h | h <;> omega
            obtain rfl : i = xs.length + 1 := by omega
            obtain rfl := htM
            skip
            go_wp2_with fail
            refine (HK.out _).mono ?_
            rintro e w9 ⟨rfl, hb9⟩
            have HB9 : Hid (Below w.heap.size w w9) := hide (HBw.out.trans (hb9.mono (by have := HBw.out.size; omega)))
            clear hb9
            go_wp2_with fail
            go_ret
            exact ⟨rfl, HB9.out⟩
end LA
end Go.Proofs.Ytenfikfgliljmaa
