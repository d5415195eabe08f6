/- The reference's Row, Budget, Sched, and the law's share. -/
import Derived.Test.YtenfikfgliljmaaC3
import Derived.Test.YtenfikfgliljmaaD4
namespace Go.Proofs.Ytenfikfgliljmaa
open Go.RowKit
namespace LA
set_option maxHeartbeats 800000 in
set_option maxRecDepth 100000 in
theorem refRow_any (A : Option Addr) (cap0 : Nat) (ys : List Slot) (w : World) (hn : ys.length ≤ 4398046511104) (hr : SlotsAt w A ys) (hok : SlotsOk ys) :
    Calls Try.prog 47 #[.slice A ys.length cap0] w fun e w' => e = .returned (.int .i64 (rowLen ys)) ∧ Below w.heap.size w w' := by
  have HR := hide hr
  have HO := hide hok
  clear hr hok
  go_enter Try.func47, Try.ntmps47
  go_wp2_with fail
  go_loopw [3, 4] (fun v3 v8 wr => ∃ (k : Nat) (e : Int), v8 = .int .i64 k ∧ v3 = .int .i64 e ∧ k ≤ ys.length ∧ Hid (rowGo (ahead ys k) e (ys.drop k) = rowLen ys) ∧ Hid (Below w.heap.size w wr)) (fun _ v _ => ys.length - (intOf v).toNat)
  case atStart => exact ⟨0, 0, rfl, rfl, Nat.zero_le _, hide rfl, hide (Below.refl _ _)⟩
  case round =>
    obtain ⟨k, e, rfl, rfl, hk, HT, HB⟩ := hrel
    by_cases hlt : k < ys.length
    · obtain ⟨b, off, hA, n0, n1, n2⟩ := HR.out k hlt
      subst hA
      obtain ⟨x, hx⟩ : ∃ x, x = ys[k] := ⟨_, rfl⟩
      rw [← hx] at n0 n1 n2
      have hdr : ys.drop k = x :: ys.drop (k + 1) := by rw [hx]; exact List.drop_eq_getElem_cons hlt
      have hgo := HT.out
      rw [hdr, rowGo] at hgo
      replace n0 := (HB.out.cell (p := ⟨b, off + k * 3, none⟩) (World.block_lt_of_cell? w _ n0)).trans n0
      replace n1 := (HB.out.cell (p := ⟨b, off + k * 3 + 1, none⟩) (World.block_lt_of_cell? w _ n1)).trans n1
      replace n2 := (HB.out.cell (p := ⟨b, off + k * 3 + 2, none⟩) (World.block_lt_of_cell? w _ n2)).trans n2
      have lb : b < wr.heap.size := World.block_lt_of_cell? wr _ n0
      have HB2 : ∀ X m, Hid (Below w.heap.size w ((wr.alloc X).drewN m)) := fun X m => hide (HB.out.trans ((Upd.alloc (S := fun _ => False) wr X).trans (Upd.drewN (S := fun _ => False) _ m) (fun _ h => .inl h) |>.below (fun _ h => h.elim) HB.out.size))
      have HB2' := hide HB2
      have Hx := hide hx
      clear hx HB2 hdr
      by_cases c1 : x.lo = e
      · subst c1
        by_cases c2 : x.hi ≤ x.lo
        · rw [if_pos (by omega)] at hgo
          have Hgo := hide hgo
          clear hgo
          go_wp2_with fail
          go_quiet (fail)
          go_wp2_with fail
          go_ret
          exact ⟨by rw [← Hgo.out]; rfl, HB2'.out _ _⟩
        · have k2 : decide (x.hi ≤ x.lo) = false := by simp; omega
          have c3 : x.lo < x.hi := by omega
          by_cases h0 : k = 0
          · have ha : sameB (ahead ys k) x.subj = false := by rw [h0]; rfl
            rw [ha, if_neg (by simp; omega)] at hgo
            have Hgo := hide hgo
            have hd0 : decide (0 < k) = false := by simp; omega
            have H0 := hide h0
            clear hgo ha h0 c2
            go_wp2_with fail
            go_quiet (fail)
            clear hd0
            go_wp2_with fail
            go_roundw
            case rel => exact ⟨k + 1, x.hi, by go_num, rfl, by omega, hide (by rw [ahead_succ hlt, ← Hx.out]; exact Hgo.out), HB2'.out _ _⟩
            case measure => simp [intOf]; omega
          · obtain ⟨b', off', hA', m0, m1, m2⟩ := HR.out (k - 1) (by omega)
            cases hA'
            obtain ⟨z, hz⟩ : ∃ z, z = ys[k - 1] := ⟨_, rfl⟩
            rw [← hz] at m0
            replace m0 := (HB.out.cell (p := ⟨b, off + (k - 1) * 3, none⟩) (World.block_lt_of_cell? w _ m0)).trans m0
            have ha : sameB (ahead ys k) x.subj = (x.subj.toList == z.subj.toList) := by
              rw [show k = (k - 1) + 1 by omega, ahead_succ (by omega), ← hz]; rfl
            rw [ha] at hgo
            clear m1 m2 hz ha c2
            have hd1 : decide (0 < k) = true := by simp; omega
            have hw1 : IntKind.i64.wrap ((k : Int) - 1) = (k : Int) - 1 := IntWalk.i64_in _ (by omega)
            have hk1 : 0 ≤ (k : Int) - 1 := by omega
            have hk2 : (k : Int) - 1 < ys.length := by omega
            cases hb : (x.subj.toList == z.subj.toList) with
            | true =>
              rw [hb, if_pos (by simp)] at hgo
              have Hgo := hide hgo
              clear hgo
              go_wp2_with fail
              go_quiet (fail)
              clear hd1 hw1
              go_wp2_with fail
              go_ret
              exact ⟨by rw [← Hgo.out]; rfl, HB2'.out _ _⟩
            | false =>
              rw [hb, if_neg (by simp; omega)] at hgo
              have Hgo := hide hgo
              clear hgo
              go_wp2_with fail
              go_quiet (fail)
              clear hd1 hw1
              go_wp2_with fail
              go_roundw
              case rel => exact ⟨k + 1, x.hi, by go_num, rfl, by omega, hide (by rw [ahead_succ hlt, ← Hx.out]; exact Hgo.out), HB2'.out _ _⟩
              case measure => simp [intOf]; omega
      · rw [if_pos (.inl c1)] at hgo
        have k1 : (x.lo == e) = false := beq_eq_false_iff_ne.2 c1
        have k2 : (x.lo != e) = true := by rw [bne_iff_ne]; exact c1
        have Hgo := hide hgo
        clear hgo c1
        go_wp2_with fail
        go_quiet (fail)
        go_wp2_with fail
        go_ret
        exact ⟨by rw [← Hgo.out]; rfl, HB2'.out _ _⟩
    · obtain rfl : k = ys.length := by omega
      go_wp2
      go_ret
      have := HT.out
      rw [List.drop_length, rowGo] at this
      exact ⟨by rw [← this]; rfl, HB.out⟩
set_option maxHeartbeats 1600000 in
set_option maxRecDepth 100000 in
theorem refBudget_any (A : Option Addr) (cap0 : Nat) (ys : List Slot) (s : ByteArray) (w : World) (hn : ys.length ≤ 4398046511104) (hr : SlotsAt w A ys) (hok : SlotsOk ys) :
    Calls Try.prog 20 #[.slice A ys.length cap0, .string s] w fun e w' => e = .returned (.int .i64 (budL s ys)) ∧ Below w.heap.size w w' := by
  have HR := hide hr
  have HO := hide hok
  clear hr hok
  go_enter Try.func20, Try.ntmps20
  go_wp2_with fail
  go_loopw [5, 6] (fun v5 v10 wr => ∃ (k : Nat) (t : Int), v10 = .int .i64 k ∧ v5 = .int .i64 t ∧ k ≤ ys.length ∧ 0 ≤ t ∧ t ≤ 65536 * k ∧ Hid (t = budL s (ys.take k)) ∧ Hid (Below w.heap.size w wr)) (fun _ v _ => ys.length - (intOf v).toNat)
  case atStart => exact ⟨0, 0, rfl, rfl, Nat.zero_le _, by omega, by omega, hide rfl, hide (Below.refl _ _)⟩
  case round =>
    obtain ⟨k, t, rfl, rfl, hk, ht0, ht1, HT, HB⟩ := hrel
    by_cases hlt : k < ys.length
    · obtain ⟨b, off, hA, n0, n1, n2⟩ := HR.out k hlt
      subst hA
      obtain ⟨x, hx⟩ : ∃ x, x = ys[k] := ⟨_, rfl⟩
      rw [← hx] at n0 n1 n2
      obtain ⟨o1, o2, o3, o4⟩ := HO.out x (hx ▸ List.getElem_mem hlt)
      have hnext : budL s (ys.take (k + 1)) = budL s (ys.take k) + budGo s x := by
        rw [List.take_succ_eq_append_getElem hlt, budL_append, ← hx]; simp [budL]
      rw [← HT.out] at hnext
      have hbd := budGo_bd s x
      replace n0 := (HB.out.cell (p := ⟨b, off + k * 3, none⟩) (World.block_lt_of_cell? w _ n0)).trans n0
      replace n1 := (HB.out.cell (p := ⟨b, off + k * 3 + 1, none⟩) (World.block_lt_of_cell? w _ n1)).trans n1
      replace n2 := (HB.out.cell (p := ⟨b, off + k * 3 + 2, none⟩) (World.block_lt_of_cell? w _ n2)).trans n2
      have lb : b < wr.heap.size := World.block_lt_of_cell? wr _ n0
      have HB2 : ∀ X, Hid (Below w.heap.size w (wr.alloc X)) := fun X => hide (HB.out.alloc HB.out.size X)
      have HB2' := hide HB2
      obtain ⟨q, hq⟩ : ∃ q, q = budGo s x := ⟨_, rfl⟩
      rw [← hq] at hnext hbd
      have Hnx := hide hnext
      unfold budGo at hq
      clear hx HB2 hnext
      by_cases c1 : x.subj.toList = s.toList
      · have k1 : (x.subj.toList == s.toList) = true := beq_iff_eq.2 c1
        by_cases c2 : 0 ≤ x.lo
        · by_cases c3 : x.lo < x.hi
          · by_cases c4 : x.hi ≤ 65536
            · rw [if_pos ⟨c1, c2, c3, c4⟩] at hq
              have Hq := hide hq
              have C1 := hide c1
              clear c1 hq
              go_wp2
              go_roundw
              case rel => exact ⟨k + 1, t + q, by go_num, by rw [Hq.out]; congr 1; omega, by omega, by omega, by omega, hide Hnx.out.symm, HB2'.out _⟩
              case measure => simp [intOf]; omega
            · rw [if_neg (by omega)] at hq
              subst hq
              clear c1
              go_wp2
              go_roundw
              case rel => exact ⟨k + 1, t, by go_num, rfl, by omega, by omega, by omega, hide (by rw [Hnx.out]; omega), HB2'.out _⟩
              case measure => simp [intOf]; omega
          · rw [if_neg (by omega)] at hq
            subst hq
            clear c1
            go_wp2
            go_roundw
            case rel => exact ⟨k + 1, t, by go_num, rfl, by omega, by omega, by omega, hide (by rw [Hnx.out]; omega), HB2'.out _⟩
            case measure => simp [intOf]; omega
        · rw [if_neg (by omega)] at hq
          subst hq
          clear c1
          go_wp2
          go_roundw
          case rel => exact ⟨k + 1, t, by go_num, rfl, by omega, by omega, by omega, hide (by rw [Hnx.out]; omega), HB2'.out _⟩
          case measure => simp [intOf]; omega
      · have k1 : (x.subj.toList == s.toList) = false := beq_eq_false_iff_ne.2 c1
        rw [if_neg (fun h => c1 h.1)] at hq
        subst hq
        clear c1
        go_wp2
        go_roundw
        case rel => exact ⟨k + 1, t, by go_num, rfl, by omega, by omega, by omega, hide (by rw [Hnx.out]; omega), HB2'.out _⟩
        case measure => simp [intOf]; omega
    · obtain rfl : k = ys.length := by omega
      go_wp2
      go_ret
      have := HT.out
      rw [List.take_length] at this
      exact ⟨by rw [← this]; rfl, HB.out⟩
set_option maxHeartbeats 800000 in
set_option maxRecDepth 100000 in
theorem share2_any (A : Option Addr) (cap0 : Nat) (ys : List Slot) (s : ByteArray) (w : World) (hn : ys.length ≤ 4398046511104) (hr : SlotsAt w A ys) (hok : SlotsOk ys) (r : Nat) (h0 : rowLen ys = 0 → r = 0) (h1 : rowLen ys ≠ 0 → partBits (budL s ys) (rowLen ys) = some r) :
    Calls Try.prog 22 #[.slice A ys.length cap0, .string s] w (SharePost r w) := by
  have Hl := hide (refRow_any A cap0 ys w hn hr hok)
  have Hb : Hid (∀ W, Below w.heap.size w W → Calls Try.prog 20 #[.slice A ys.length cap0, .string s] W fun e w' => e = .returned (.int .i64 (budL s ys)) ∧ Below W.heap.size W w') :=
    hide (fun W hW => refBudget_any A cap0 ys s W hn (hr.below hW) hok)
  have H0 := hide h0
  have H1 := hide h1
  clear h0 h1
  have hc : ∀ (n : Int) (w : World), (convert 3 40 (.int .i64 n)).run Try.prog w = .ok (.float .f64 (floatOfInt .f64 n)) w := fun n w => run_convert_int_float w 3 40 .i64 .f64 n (by kernel_rfl) (by kernel_rfl)
  go_enter Try.func22, Try.ntmps22
  go_wp2_with fail
  refine Hl.out.mono ?_
  rintro e w1 ⟨rfl, hb1⟩
  have HB1 := hide hb1
  by_cases hz : rowLen ys = 0
  · have Hr := hide (H0.out hz)
    rw [hz]
    clear hb1 hc
    go_wp2_with fail
    go_ret
    exact ⟨by rw [Hr.out]; rfl, HB1.out⟩
  · have k1 : (rowLen ys == 0) = false := beq_eq_false_iff_ne.2 hz
    have hq : ∀ w : World, (binOp .quo 40 (.float .f64 (floatOfInt .f64 (budL s ys))) (.float .f64 (floatOfInt .f64 (rowLen ys)))).run Try.prog w = .ok (.float .f64 r) w := fun w => run_float_arith w .quo 40 .f64 _ _ r (H1.out hz)
    generalize hml : rowLen ys = ml at *
    clear hb1
    go_wp2_with fail
    refine (Hb.out _ HB1.out).mono ?_
    rintro e w2 ⟨rfl, hb2⟩
    have HB2 := hide (HB1.out.trans (hb2.mono HB1.out.size))
    clear hb2
    go_wp2_with fail
    go_ret
    exact ⟨rfl, HB2.out⟩
set_option maxHeartbeats 1600000 in
set_option maxRecDepth 100000 in
theorem refSched_any (A : Option Addr) (cap0 : Nat) (ys : List Slot) (o : Int) (w : World) (hn : ys.length ≤ 4398046511104) (hr : SlotsAt w A ys) (hok : SlotsOk ys) :
    Calls Try.prog 18 #[.slice A ys.length cap0, .int .i64 o] w fun e w' => e = .returned (.tuple #[.string (schedL ys o).1, .int .i64 (schedL ys o).2]) ∧ Below w.heap.size w w' := by
  have Hl := hide (refRow_any A cap0 ys w hn hr hok)
  have HR := hide hr
  have HO := hide hok
  clear hr hok
  go_enter Try.func18, Try.ntmps18
  go_wp2_with fail
  refine Hl.out.mono ?_
  rintro e w1 ⟨rfl, hb1⟩
  have HB1 := hide hb1
  have HR1 := hide (HR.out.below hb1)
  by_cases hz : rowLen ys = 0
  · have hs : schedL ys o = (⟨#[]⟩, 0) := by unfold schedL; rw [if_pos hz]
    have Hs := hide hs
    rw [hz]
    clear hs hz hb1
    go_wp2_with fail
    go_ret2
    exact ⟨by rw [Hs.out]; rfl, HB1.out⟩
  · have hpos : 0 < rowLen ys := by
      have := (rowGo_right (ys := ys) (p := none) (e := 0) (Int.le_refl 0) hz).1
      unfold rowLen at hz ⊢; omega
    have hle : rowLen ys ≤ 9223372036854775807 := by
      obtain ⟨a, b, c, d⟩ := rowGo_right (ys := ys) (p := none) (e := 0) (Int.le_refl 0) hz
      have hl : 0 < ys.length := by
        cases ys with
        | nil => simp [rowLen, rowGo] at hz
        | cons y r => simp
      obtain ⟨h1, h2⟩ := d hl
      have := (HO.out _ (List.getElem_mem h1)).2.2.2
      unfold rowLen; omega
    obtain ⟨q, hq⟩ : ∃ q, q = max o 0 % rowLen ys := ⟨_, rfl⟩
    have hq0 : 0 ≤ q := by rw [hq]; exact Int.emod_nonneg _ (by omega)
    have hs : schedL ys o = findAt q ys := by unfold schedL; rw [if_neg hz, hq]
    have k1 : (rowLen ys == 0) = false := beq_eq_false_iff_ne.2 hz
    have Hs := hide hs
    generalize hml : rowLen ys = ml at *
    clear hb1 hs hz hml
    by_cases ho : o < 0
    · have hmx : max o 0 = 0 := by omega
      rw [hmx] at hq
      have Hq := hide hq
      clear hmx hq
      have E1 := hide (show q = 0 from by rw [Hq.out]; simp)
      go_wp2_with fail
      go_loopw [7] (fun v wr => ∃ k : Nat, v = .int .i64 (k : Int) ∧ k ≤ ys.length ∧ Hid (findAt q (ys.drop k) = findAt q ys) ∧ wr = w1) (fun v _ => ys.length - (intOf v).toNat)
      case atStart => exact ⟨0, rfl, Nat.zero_le _, hide rfl, rfl⟩
      case round =>
        obtain ⟨k, rfl, hk, HT, rfl⟩ := hrel
        by_cases hlt : k < ys.length
        · obtain ⟨b, off, hA, n0, n1, n2⟩ := HR1.out k hlt
          subst hA
          obtain ⟨x, hx⟩ : ∃ x, x = ys[k] := ⟨_, rfl⟩
          rw [← hx] at n0 n1 n2
          have hhi2 := (HO.out x (hx ▸ List.getElem_mem hlt)).2.2.2
          have hgo := HT.out
          rw [List.drop_eq_getElem_cons hlt, ← hx, findAt] at hgo
          clear hx
          by_cases hc : 0 < x.hi
          · rw [if_pos (by rw [E1.out]; exact hc)] at hgo
            have Hgo := hide hgo
            have hq2 : (0 : Int) ≤ 0 := by have := hq0; rw [E1.out] at this; exact this
            have hw1 : IntKind.i64.wrap (x.hi - 0) = x.hi - 0 := IntWalk.i64_in _ (by omega)
            clear hgo n1
            go_wp2_with fail
            go_quiet (fail)
            clear hw1
            go_wp2_with fail
            go_ret2
            exact ⟨by rw [Hs.out, ← Hgo.out, E1.out, Int.sub_zero]; rfl, bdn HB1.out _⟩
          · rw [if_neg (by rw [E1.out]; exact hc)] at hgo
            have Hgo := hide hgo
            clear hgo n0 n1
            go_wp2_with fail
            go_roundw
            case rel => exact ⟨k + 1, by go_num, by omega, Hgo, by trivial⟩
            case measure => simp [intOf]; omega
        · obtain rfl : k = ys.length := by omega
          have hgo := HT.out
          rw [List.drop_length, findAt] at hgo
          have Hgo := hide hgo
          clear hgo
          go_wp2_with fail
          go_ret2
          exact ⟨by rw [Hs.out, ← Hgo.out]; rfl, HB1.out⟩
    · have hmx : max o 0 = o := by omega
      rw [hmx] at hq
      have Hq := hide hq
      clear hmx hq
      have E1 := hide (show q = o % ml from by rw [Hq.out])
      go_wp2_with fail
      go_loopw [7] (fun v wr => ∃ k : Nat, v = .int .i64 (k : Int) ∧ k ≤ ys.length ∧ Hid (findAt q (ys.drop k) = findAt q ys) ∧ wr = w1) (fun v _ => ys.length - (intOf v).toNat)
      case atStart => exact ⟨0, rfl, Nat.zero_le _, hide rfl, rfl⟩
      case round =>
        obtain ⟨k, rfl, hk, HT, rfl⟩ := hrel
        by_cases hlt : k < ys.length
        · obtain ⟨b, off, hA, n0, n1, n2⟩ := HR1.out k hlt
          subst hA
          obtain ⟨x, hx⟩ : ∃ x, x = ys[k] := ⟨_, rfl⟩
          rw [← hx] at n0 n1 n2
          have hhi2 := (HO.out x (hx ▸ List.getElem_mem hlt)).2.2.2
          have hgo := HT.out
          rw [List.drop_eq_getElem_cons hlt, ← hx, findAt] at hgo
          clear hx
          by_cases hc : o % ml < x.hi
          · rw [if_pos (by rw [E1.out]; exact hc)] at hgo
            have Hgo := hide hgo
            have hq2 : (0 : Int) ≤ o % ml := by have := hq0; rw [E1.out] at this; exact this
            have hw1 : IntKind.i64.wrap (x.hi - o % ml) = x.hi - o % ml := IntWalk.i64_in _ (by omega)
            clear hgo n1
            go_wp2_with fail
            go_quiet (fail)
            clear hw1
            go_wp2_with fail
            go_ret2
            exact ⟨by rw [Hs.out, ← Hgo.out, E1.out]; rfl, bdn HB1.out _⟩
          · rw [if_neg (by rw [E1.out]; exact hc)] at hgo
            have Hgo := hide hgo
            clear hgo n0 n1
            go_wp2_with fail
            go_roundw
            case rel => exact ⟨k + 1, by go_num, by omega, Hgo, by trivial⟩
            case measure => simp [intOf]; omega
        · obtain rfl : k = ys.length := by omega
          have hgo := HT.out
          rw [List.drop_length, findAt] at hgo
          have Hgo := hide hgo
          clear hgo
          go_wp2_with fail
          go_ret2
          exact ⟨by rw [Hs.out, ← Hgo.out]; rfl, HB1.out⟩
end LA
end Go.Proofs.Ytenfikfgliljmaa
