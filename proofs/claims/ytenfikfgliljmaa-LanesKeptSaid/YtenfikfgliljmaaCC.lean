/- Walks of Budget, length, Search, Sched. -/
import Derived.Test.YtenfikfgliljmaaAB
import Derived.Test.YtenfikfgliljmaaMA
namespace Go.Proofs.Ytenfikfgliljmaa
open Go.RowKit
namespace LA
theorem below_of_upd0 {w w' : World} (h : Upd (fun _ => False) w w') : Below w.heap.size w w' := h.below (fun _ h => h.elim) (Nat.le_refl _)

set_option maxHeartbeats 1600000 in
set_option maxRecDepth 100000 in
theorem budget_any (A : Option Addr) (cap0 : Nat) (ys : List Slot) (s : ByteArray) (w : World) (hn : ys.length ≤ 4398046511104) (hr : SlotsAt w A ys) (hok : SlotsOk ys) :
    Calls Try.prog 19 #[.slice A ys.length cap0, .string s] w fun e w' => e = .returned (.int .i64 (budL s ys)) ∧ Below w.heap.size w w' := by
  have HR := hide hr
  have HO := hide hok
  clear hr hok
  go_enter Try.func19, Try.ntmps19
  go_wp2_with fail
  go_loopw [5, 10] (fun v5 v10 wr => ∃ (k : Nat) (t : Int), v10 = .int .i64 k ∧ v5 = .int .i64 t ∧ k ≤ ys.length ∧ 0 ≤ t ∧ t ≤ 65536 * k ∧ Hid (t = budL s (ys.take k)) ∧ Hid (Below w.heap.size w wr)) (fun _ v _ => ys.length - (intOf v).toNat)
  case atStart => exact ⟨0, 0, rfl, rfl, Nat.zero_le _, by omega, by omega, hide rfl, hide (Below.refl _ _)⟩
  case round =>
    obtain ⟨k, t, rfl, rfl, hk, ht0, ht1, HT, HB⟩ := hrel
    by_cases hlt : k < ys.length
    · obtain ⟨b, off, hA, n0, n1, n2⟩ := HR.out k hlt
      subst hA
      obtain ⟨x, hx⟩ : ∃ x, x = ys[k] := ⟨_, rfl⟩
      rw [← hx] at n0 n1 n2
      obtain ⟨o1, o2, o3, o4⟩ := HO.out x (hx ▸ List.getElem_mem hlt)
      have hnext : budL s (ys.take (k + 1)) = budL s (ys.take k) + budGo s x := by
        rw [List.take_succ_eq_append_getElem hlt, budL_append, ← hx]; simp [budL]
      rw [← HT.out] at hnext
      have hbd := budGo_bd s x
      replace n0 := (HB.out.cell (p := ⟨b, off + k * 3, none⟩) (World.block_lt_of_cell? w _ n0)).trans n0
      replace n1 := (HB.out.cell (p := ⟨b, off + k * 3 + 1, none⟩) (World.block_lt_of_cell? w _ n1)).trans n1
      replace n2 := (HB.out.cell (p := ⟨b, off + k * 3 + 2, none⟩) (World.block_lt_of_cell? w _ n2)).trans n2
      have lb : b < wr.heap.size := World.block_lt_of_cell? wr _ n0
      have HB2 : ∀ X, Hid (Below w.heap.size w (wr.alloc X)) := fun X => hide (HB.out.alloc HB.out.size X)
      have HB2' := hide HB2
      obtain ⟨q, hq⟩ : ∃ q, q = budGo s x := ⟨_, rfl⟩
      rw [← hq] at hnext hbd
      have Hnx := hide hnext
      unfold budGo at hq
      clear hx HB2 hnext
      by_cases c1 : x.subj.toList = s.toList
      · have k1 : (x.subj.toList == s.toList) = true := beq_iff_eq.2 c1
        by_cases c2 : 0 ≤ x.lo
        · by_cases c3 : x.lo < x.hi
          · by_cases c4 : x.hi ≤ 65536
            · rw [if_pos ⟨c1, c2, c3, c4⟩] at hq
              have Hq := hide hq
              have C1 := hide c1
              clear c1 hq
              go_wp2
              go_roundw
              case rel => exact ⟨k + 1, t + q, by go_num, by rw [Hq.out], by omega, by omega, by omega, hide Hnx.out.symm, HB2'.out _⟩
              case measure => simp [intOf]; omega
            · rw [if_neg (by omega)] at hq
              subst hq
              clear c1
              go_wp2
              go_roundw
              case rel => exact ⟨k + 1, t, by go_num, rfl, by omega, by omega, by omega, hide (by rw [Hnx.out]; omega), HB2'.out _⟩
              case measure => simp [intOf]; omega
          · rw [if_neg (by omega)] at hq
            subst hq
            clear c1
            go_wp2
            go_roundw
            case rel => exact ⟨k + 1, t, by go_num, rfl, by omega, by omega, by omega, hide (by rw [Hnx.out]; omega), HB2'.out _⟩
            case measure => simp [intOf]; omega
        · rw [if_neg (by omega)] at hq
          subst hq
          clear c1
          go_wp2
          go_roundw
          case rel => exact ⟨k + 1, t, by go_num, rfl, by omega, by omega, by omega, hide (by rw [Hnx.out]; omega), HB2'.out _⟩
          case measure => simp [intOf]; omega
      · have k1 : (x.subj.toList == s.toList) = false := beq_eq_false_iff_ne.2 c1
        rw [if_neg (fun h => c1 h.1)] at hq
        subst hq
        clear c1
        go_wp2
        go_roundw
        case rel => exact ⟨k + 1, t, by go_num, rfl, by omega, by omega, by omega, hide (by rw [Hnx.out]; omega), HB2'.out _⟩
        case measure => simp [intOf]; omega
    · obtain rfl : k = ys.length := by omega
      go_wp2
      go_ret
      have := HT.out
      rw [List.take_length] at this
      exact ⟨by rw [← this]; rfl, HB.out⟩
end LA
end Go.Proofs.Ytenfikfgliljmaa
namespace Go.Proofs.Ytenfikfgliljmaa
open Go.RowKit
namespace LA
theorem ahead_succ {ys : List Slot} {k : Nat} (h : k < ys.length) : ahead ys (k + 1) = some ys[k].subj := by simp [ahead, h]

set_option maxHeartbeats 800000 in
set_option maxRecDepth 100000 in
theorem length_any (A : Option Addr) (cap0 : Nat) (ys : List Slot) (w : World) (hn : ys.length ≤ 4398046511104) (hr : SlotsAt w A ys) (hok : SlotsOk ys) :
    Calls Try.prog 44 #[.slice A ys.length cap0] w fun e w' => e = .returned (.int .i64 (rowLen ys)) ∧ Below w.heap.size w w' := by
  have HR := hide hr
  have HO := hide hok
  clear hr hok
  go_enter Try.func44, Try.ntmps44
  go_wp2_with fail
  go_loopw [3, 8] (fun v3 v8 wr => ∃ (k : Nat) (e : Int), v8 = .int .i64 k ∧ v3 = .int .i64 e ∧ k ≤ ys.length ∧ Hid (rowGo (ahead ys k) e (ys.drop k) = rowLen ys) ∧ Hid (Below w.heap.size w wr)) (fun _ v _ => ys.length - (intOf v).toNat)
  case atStart => exact ⟨0, 0, rfl, rfl, Nat.zero_le _, hide rfl, hide (Below.refl _ _)⟩
  case round =>
    obtain ⟨k, e, rfl, rfl, hk, HT, HB⟩ := hrel
    by_cases hlt : k < ys.length
    · obtain ⟨b, off, hA, n0, n1, n2⟩ := HR.out k hlt
      subst hA
      obtain ⟨x, hx⟩ : ∃ x, x = ys[k] := ⟨_, rfl⟩
      rw [← hx] at n0 n1 n2
      have hdr : ys.drop k = x :: ys.drop (k + 1) := by rw [hx]; exact List.drop_eq_getElem_cons hlt
      have hgo := HT.out
      rw [hdr, rowGo] at hgo
      replace n0 := (HB.out.cell (p := ⟨b, off + k * 3, none⟩) (World.block_lt_of_cell? w _ n0)).trans n0
      replace n1 := (HB.out.cell (p := ⟨b, off + k * 3 + 1, none⟩) (World.block_lt_of_cell? w _ n1)).trans n1
      replace n2 := (HB.out.cell (p := ⟨b, off + k * 3 + 2, none⟩) (World.block_lt_of_cell? w _ n2)).trans n2
      have lb : b < wr.heap.size := World.block_lt_of_cell? wr _ n0
      have HB2 : ∀ X m, Hid (Below w.heap.size w ((wr.alloc X).drewN m)) := fun X m => hide (HB.out.trans ((Upd.alloc (S := fun _ => False) wr X).trans (Upd.drewN (S := fun _ => False) _ m) (fun _ h => .inl h) |>.below (fun _ h => h.elim) HB.out.size))
      have HB2' := hide HB2
      have Hx := hide hx
      clear hx HB2 hdr
      by_cases c1 : x.lo = e
      · subst c1
        by_cases c2 : x.hi ≤ x.lo
        · rw [if_pos (by omega)] at hgo
          have Hgo := hide hgo
          clear hgo
          go_wp2_with fail
          go_quiet (fail)
          go_wp2_with fail
          go_ret
          exact ⟨by rw [← Hgo.out]; rfl, HB2'.out _ _⟩
        · have k2 : decide (x.hi ≤ x.lo) = false := by simp; omega
          have c3 : x.lo < x.hi := by omega
          by_cases h0 : k = 0
          · have ha : sameB (ahead ys k) x.subj = false := by rw [h0]; rfl
            rw [ha, if_neg (by simp; omega)] at hgo
            have Hgo := hide hgo
            have hd0 : decide (0 < k) = false := by simp; omega
            have H0 := hide h0
            clear hgo ha h0 c2
            go_wp2_with fail
            go_quiet (fail)
            clear hd0
            go_wp2_with fail
            go_roundw
            case rel => exact ⟨k + 1, x.hi, by go_num, rfl, by omega, hide (by rw [ahead_succ hlt, ← Hx.out]; exact Hgo.out), HB2'.out _ _⟩
            case measure => simp [intOf]; omega
          · obtain ⟨b', off', hA', m0, m1, m2⟩ := HR.out (k - 1) (by omega)
            cases hA'
            obtain ⟨z, hz⟩ : ∃ z, z = ys[k - 1] := ⟨_, rfl⟩
            rw [← hz] at m0
            replace m0 := (HB.out.cell (p := ⟨b, off + (k - 1) * 3, none⟩) (World.block_lt_of_cell? w _ m0)).trans m0
            have ha : sameB (ahead ys k) x.subj = (x.subj.toList == z.subj.toList) := by
              rw [show k = (k - 1) + 1 by omega, ahead_succ (by omega), ← hz]; rfl
            rw [ha] at hgo
            clear m1 m2 hz ha c2
            have hd1 : decide (0 < k) = true := by simp; omega
            have hw1 : IntKind.i64.wrap ((k : Int) - 1) = (k : Int) - 1 := IntWalk.i64_in _ (by omega)
            have hk1 : 0 ≤ (k : Int) - 1 := by omega
            have hk2 : (k : Int) - 1 < ys.length := by omega
            cases hb : (x.subj.toList == z.subj.toList) with
            | true =>
              rw [hb, if_pos (by simp)] at hgo
              have Hgo := hide hgo
              clear hgo
              go_wp2_with fail
              go_quiet (fail)
              clear hd1 hw1
              go_wp2_with fail
              go_ret
              exact ⟨by rw [← Hgo.out]; rfl, HB2'.out _ _⟩
            | false =>
              rw [hb, if_neg (by simp; omega)] at hgo
              have Hgo := hide hgo
              clear hgo
              go_wp2_with fail
              go_quiet (fail)
              clear hd1 hw1
              go_wp2_with fail
              go_roundw
              case rel => exact ⟨k + 1, x.hi, by go_num, rfl, by omega, hide (by rw [ahead_succ hlt, ← Hx.out]; exact Hgo.out), HB2'.out _ _⟩
              case measure => simp [intOf]; omega
      · rw [if_pos (.inl c1)] at hgo
        have k1 : (x.lo == e) = false := beq_eq_false_iff_ne.2 c1
        have k2 : (x.lo != e) = true := by rw [bne_iff_ne]; exact c1
        have Hgo := hide hgo
        clear hgo c1
        go_wp2_with fail
        go_quiet (fail)
        go_wp2_with fail
        go_ret
        exact ⟨by rw [← Hgo.out]; rfl, HB2'.out _ _⟩
    · obtain rfl : k = ys.length := by omega
      go_wp2
      go_ret
      have := HT.out
      rw [List.drop_length, rowGo] at this
      exact ⟨by rw [← this]; rfl, HB.out⟩
end LA
end Go.Proofs.Ytenfikfgliljmaa
namespace Go.Proofs.Ytenfikfgliljmaa
open Go.RowKit
namespace LA
theorem bdn {B : Nat} {a w : World} (h : Below B a w) (n : Nat) : Below B a (w.drewN n) := ⟨h.os, h.tape, h.output, h.size, h.block⟩

set_option maxHeartbeats 800000 in
set_option maxRecDepth 100000 in
theorem clos_any (po ps : Nat) (A : Option Addr) (cap0 : Nat) (ys : List Slot) (o : Int) (i : Int) (w : World) (hi0 : 0 ≤ i) (hi1 : i < ys.length) (hr : SlotsAt w A ys)
    (ho : w.cell? ⟨po, 0, none⟩ = some (.int .i64 o)) (hs : w.cell? ⟨ps, 0, none⟩ = some (.slice A ys.length cap0)) :
    Calls Try.prog 46 #[.int .i64 i, .pointer (some ⟨po, 0, none⟩), .pointer (some ⟨ps, 0, none⟩)] w fun e w' => e = .returned (.bool (decide (o < (ys.getD i.toNat .zero).hi))) ∧ ∃ m, w' = w.drewN m := by
  obtain ⟨k, rfl⟩ := Int.eq_ofNat_of_zero_le hi0
  have hk : k < ys.length := by omega
  obtain ⟨b, off, hA, n0, n1, n2⟩ := hr k hk
  subst hA
  have he : (ys.getD ((k : Int)).toNat .zero) = ys[k] := by simp [List.getD, hk]
  rw [he]
  generalize ys[k] = x at *
  clear hr he n0 n1
  go_enter Try.func46, Try.ntmps46
  go_wp2
  go_quiet (fail)
  go_wp2
  go_ret
  exact ⟨rfl, _, rfl⟩

/-- What Search finds: the first place at which the test says yes. -/
def SearchPost (ys : List Slot) (o : Int) (w : World) (e : Ending) (w' : World) : Prop :=
  ∃ i m : Nat, e = .returned (.int .i64 (i : Int)) ∧ i ≤ ys.length ∧ (i < ys.length → o < (ys.getD i .zero).hi) ∧ (0 < i → (ys.getD (i - 1) .zero).hi ≤ o) ∧ w' = w.drewN m

set_option maxHeartbeats 800000 in
set_option maxRecDepth 100000 in
theorem search_any (po ps : Nat) (A : Option Addr) (cap0 : Nat) (ys : List Slot) (o : Int) (w : World) (hn : ys.length ≤ 4398046511104) (hr : SlotsAt w A ys)
    (ho : w.cell? ⟨po, 0, none⟩ = some (.int .i64 o)) (hs : w.cell? ⟨ps, 0, none⟩ = some (.slice A ys.length cap0)) :
    Calls Try.prog 45 #[.int .i64 ys.length, .func (.func 46) #[] #[.pointer (some ⟨po, 0, none⟩), .pointer (some ⟨ps, 0, none⟩)]] w (SearchPost ys o w) := by
  have HC : Hid (∀ (i : Int) (m : Nat), 0 ≤ i → i < ys.length → Calls Try.prog 46 #[.int .i64 i, .pointer (some ⟨po, 0, none⟩), .pointer (some ⟨ps, 0, none⟩)] (w.drewN m) fun e w' => e = .returned (.bool (decide (o < (ys.getD i.toNat .zero).hi))) ∧ ∃ m', w' = (w.drewN m).drewN m') :=
    hide (fun i m h1 h2 => clos_any po ps A cap0 ys o i (w.drewN m) h1 h2 hr ho hs)
  clear hr ho hs
  go_enter Try.func45, Try.ntmps45
  go_wp2_with fail
  go_loopw [5, 6] (fun v5 v6 wr => ∃ (i j m : Nat), v5 = .int .i64 i ∧ v6 = .int .i64 j ∧ i ≤ j ∧ j ≤ ys.length ∧ Hid (0 < i → (ys.getD (i - 1) .zero).hi ≤ o) ∧ Hid (j < ys.length → o < (ys.getD j .zero).hi) ∧ wr = w.drewN m) (fun v5 v6 _ => (intOf v6).toNat - (intOf v5).toNat)
  case atStart => exact ⟨0, ys.length, 0, rfl, rfl, Nat.zero_le _, Nat.le_refl _, hide (fun h => absurd h (Nat.lt_irrefl 0)), hide (fun h => absurd h (Nat.lt_irrefl _)), rfl⟩
  case round =>
    obtain ⟨i, j, m, rfl, rfl, hij, hj, HI, HJ, rfl⟩ := hrel
    by_cases hlt : i < j
    · go_wp2_with fail
      refine (HC.out _ m (by omega) (by omega)).mono ?_
      rintro e w1 ⟨he, m', rfl⟩
      have ht : ((((i : Int) + (j : Int)) / 2)).toNat = (i + j) / 2 := by omega
      rw [ht] at he
      cases hb : decide (o < (ys.getD ((i + j) / 2) .zero).hi) with
      | true =>
        rw [hb] at he
        subst he
        have Hb := hide hb
        clear hb ht
        go_wp2_with fail
        go_roundw
        case rel => exact ⟨i, (i + j) / 2, m + m', rfl, by rw [show (((i : Int) + (j : Int)) / 2) = (((i + j) / 2 : Nat) : Int) by omega], by omega, by omega, HI, hide (fun _ => of_decide_eq_true Hb.out), rfl⟩
        case measure => simp [intOf]; omega
      | false =>
        rw [hb] at he
        subst he
        have Hb := hide hb
        clear hb ht
        go_wp2_with fail
        go_roundw
        case rel => exact ⟨(i + j) / 2 + 1, j, m + m', by rw [show (((i : Int) + (j : Int)) / 2 + 1) = (((i + j) / 2 + 1 : Nat) : Int) by omega], rfl, by omega, by omega, hide (fun _ => by have := of_decide_eq_false Hb.out; simpa using this), HJ, rfl⟩
        case measure => simp [intOf]; omega
    · obtain rfl : i = j := by omega
      go_wp2_with fail
      go_ret
      exact ⟨i, m, rfl, hj, HJ.out, HI.out, rfl⟩

theorem sched_find {ys : List Slot} {o : Int} {i : Nat} (ho : 0 ≤ o) (ho2 : o < rowLen ys) (hi : i ≤ ys.length) (h1 : i < ys.length → o < (ys.getD i .zero).hi) (h2 : 0 < i → (ys.getD (i - 1) .zero).hi ≤ o) :
    ∃ h : i < ys.length, findAt o ys = (ys[i].subj, ys[i].hi - o) := by
  have hne : rowLen ys ≠ 0 := by omega
  obtain ⟨a, b, c, d⟩ := rowGo_right (ys := ys) (p := none) (e := 0) (Int.le_refl 0) hne
  have hpos : 0 < ys.length := by
    cases ys with
    | nil => simp [rowLen, rowGo] at hne
    | cons y r => simp
  have hlt : i < ys.length := by
    by_cases e : i < ys.length
    · exact e
    · exfalso
      obtain ⟨h3, h4⟩ := d hpos
      have h5 := h2 (by omega)
      rw [show i - 1 = ys.length - 1 by omega] at h5
      have h6 : ys.getD (ys.length - 1) .zero = ys[ys.length - 1] := by simp [List.getD, show ys.length - 1 < ys.length by omega]
      rw [h6, h4] at h5
      unfold rowLen at ho2
      omega
  refine ⟨hlt, findAt_get hlt (fun j hj => ?_) ?_⟩
  · have h5 := h2 (by omega)
    rw [show ys.getD (i - 1) .zero = ys[i - 1] by simp [List.getD, show i - 1 < ys.length by omega]] at h5
    by_cases e : j = i - 1
    · subst e; exact h5
    · have := c j (i - 1) (by omega) (by omega)
      omega
  · have h5 := h1 hlt
    rw [show ys.getD i .zero = ys[i] by simp [List.getD, hlt]] at h5
    exact h5

set_option maxHeartbeats 800000 in
set_option maxRecDepth 100000 in
theorem sched_any (A : Option Addr) (cap0 : Nat) (ys : List Slot) (o : Int) (w : World) (hn : ys.length ≤ 4398046511104) (hr : SlotsAt w A ys) (hok : SlotsOk ys) :
    Calls Try.prog 17 #[.slice A ys.length cap0, .int .i64 o] w fun e w' => e = .returned (.tuple #[.string (schedL ys o).1, .int .i64 (schedL ys o).2]) ∧ Below w.heap.size w w' := by
  have r0 := Row.alloc_new w #[.slice A ys.length cap0] 22
  have r1 := Row.alloc_new (w.alloc (.cells #[.slice A ys.length cap0] 22)) #[.int .i64 o] 3
  simp only [World.size_alloc] at r1
  have r0' := r0.alloc (.cells #[.int .i64 o] 3)
  have hb0 : Below w.heap.size w ((w.alloc (.cells #[.slice A ys.length cap0] 22)).alloc (.cells #[.int .i64 o] 3)) := ((Below.refl _ w).alloc (Nat.le_refl _) _).alloc (by simp) _
  have Hl := hide (length_any A cap0 ys ((w.alloc (.cells #[.slice A ys.length cap0] 22)).alloc (.cells #[.int .i64 o] 3)) hn (hr.below hb0) hok)
  have HR := hide hr
  have HO := hide hok
  have H0 := hide r0'
  have H1 := hide r1
  have HB0 := hide hb0
  clear hr hok r0 r1 r0' hb0
  go_enter Try.func17, Try.ntmps17
  go_wp2_with fail
  refine Hl.out.mono ?_
  rintro e w1 ⟨rfl, hb1⟩
  have HB1 := hide hb1
  have HB2 := hide (HB0.out.trans (hb1.mono (by simp only [World.size_alloc]; omega)))
  by_cases hz : rowLen ys = 0
  · have hs : schedL ys o = (⟨#[]⟩, 0) := by unfold schedL; rw [if_pos hz]
    have Hs := hide hs
    rw [hz]
    clear hs hz hb1
    go_wp2_with fail
    go_ret2
    exact ⟨by rw [Hs.out]; rfl, HB2.out⟩
  · have hpos : 0 < rowLen ys := by
      have := (rowGo_right (ys := ys) (p := none) (e := 0) (Int.le_refl 0) hz).1
      unfold rowLen at hz ⊢; omega
    have hle : rowLen ys ≤ 9223372036854775807 := by
      obtain ⟨a, b, c, d⟩ := rowGo_right (ys := ys) (p := none) (e := 0) (Int.le_refl 0) hz
      have hl : 0 < ys.length := by
        cases ys with
        | nil => simp [rowLen, rowGo] at hz
        | cons y r => simp
      obtain ⟨h1, h2⟩ := d hl
      have := (HO.out _ (List.getElem_mem h1)).2.2.2
      unfold rowLen; omega
    obtain ⟨q, hq⟩ : ∃ q, q = max o 0 % rowLen ys := ⟨_, rfl⟩
    have hq0 : 0 ≤ q := by rw [hq]; exact Int.emod_nonneg _ (by omega)
    have hq1 : q < rowLen ys := by rw [hq]; exact Int.emod_lt_of_pos _ hpos
    have hs : schedL ys o = findAt q ys := by unfold schedL; rw [if_neg hz, hq]
    have k1 : (rowLen ys == 0) = false := beq_eq_false_iff_ne.2 hz
    have R0 : Row w1 w.heap.size 22 #[.slice A ys.length cap0] := (hb1.block _ (by simp; omega)).trans H0.out
    have R1 : Row w1 (w.heap.size + 1) 3 #[.int .i64 o] := (hb1.block _ (by simp)).trans H1.out
    have c0 := R0.cell (o := 0) rfl
    have c1 := R1.cell (o := 0) rfl
    have f1 := R1.frozen 0
    obtain ⟨w2, hw2⟩ : ∃ w2, w2 = w1.setCell ⟨w.heap.size + 1, 0, none⟩ (.int .i64 q) := ⟨_, rfl⟩
    have s2 : Row w2 (w.heap.size + 1) 3 #[.int .i64 q] := by rw [hw2]; exact R1.setCell 0 _
    have s0 : Row w2 w.heap.size 22 #[.slice A ys.length cap0] := by rw [hw2]; exact R0.setCell_ne (by simp) _
    have b2 : Below w.heap.size w w2 := by rw [hw2]; exact HB2.out.setCell (by simp) _
    have rr : SlotsAt w2 A ys := HR.out.below b2
    have Hse := hide (search_any (w.heap.size + 1) w.heap.size A cap0 ys q w2 hn rr (s2.cell (o := 0) rfl) (s0.cell (o := 0) rfl))
    have hmf : ∀ (fn : Fn) (first cap : Array Value) (w : World), (Instr.makeFunc fn first cap).run Try.prog w = .ok (.func fn first cap) w := fun _ _ _ _ => rfl
    have HW2 := hide hw2
    have S2 := hide s2
    have S0 := hide s0
    have B2 := hide b2
    have RR := hide rr
    have Hs := hide hs
    have Hz := hide hz
    have Hq := hide hq
    generalize hml : rowLen ys = ml at *
    have Hml := hide hml
    clear hw2 s2 s0 b2 rr hs hz hq hml hb1 R0 R1
    by_cases ho : 0 ≤ o
    · have hmx : max o 0 = o := by omega
      have E1 := hide (show q = o % ml by rw [Hq.out, hmx])
      clear hmx
      have hW : w1.setCell ⟨w.heap.size + 1, 0, none⟩ (.int .i64 (o % ml)) = w2 := by rw [HW2.out, E1.out]
      have HWq := hide hW
      clear hW
      go_wp2_with fail
      rw [HWq.out]
      refine Hse.out.mono ?_
      rintro e w3 ⟨i, m, rfl, h1, h2, h3, rfl⟩
      obtain ⟨hlt, hf⟩ := sched_find hq0 (by rw [Hml.out]; exact hq1) h1 h2 h3
      obtain ⟨b, off, hA, n0, n1, n2⟩ := RR.out i hlt
      subst hA
      have hhi : q < ys[i].hi := by have := h2 hlt; rwa [show ys.getD i .zero = ys[i] by simp [List.getD, hlt]] at this
      have hhi2 := (HO.out _ (List.getElem_mem hlt)).2.2.2
      have Hf := hide (Hs.out.trans hf)
      generalize ys[i] = x at *
      have d0 := S0.out.cell (o := 0) rfl
      have d1 := S2.out.cell (o := 0) rfl
      have hw1 : IntKind.i64.wrap (x.hi - q) = x.hi - q := IntWalk.i64_in _ (by omega)
      clear h2 h3 hf c0 c1 f1 n1
      go_wp2_with fail
      go_quiet (fail)
      clear hw1
      go_wp2_with fail
      go_ret2
      exact ⟨by rw [Hf.out]; rfl, bdn (bdn B2.out _) _⟩
    · have hmx : max o 0 = 0 := by omega
      have E1 := hide (show q = 0 by rw [Hq.out, hmx]; simp)
      clear hmx
      have hW : w1.setCell ⟨w.heap.size + 1, 0, none⟩ (.int .i64 (0)) = w2 := by rw [HW2.out, E1.out]
      have HWq := hide hW
      clear hW
      go_wp2_with fail
      rw [HWq.out]
      refine Hse.out.mono ?_
      rintro e w3 ⟨i, m, rfl, h1, h2, h3, rfl⟩
      obtain ⟨hlt, hf⟩ := sched_find hq0 (by rw [Hml.out]; exact hq1) h1 h2 h3
      obtain ⟨b, off, hA, n0, n1, n2⟩ := RR.out i hlt
      subst hA
      have hhi : q < ys[i].hi := by have := h2 hlt; rwa [show ys.getD i .zero = ys[i] by simp [List.getD, hlt]] at this
      have hhi2 := (HO.out _ (List.getElem_mem hlt)).2.2.2
      have Hf := hide (Hs.out.trans hf)
      generalize ys[i] = x at *
      have d0 := S0.out.cell (o := 0) rfl
      have d1 := S2.out.cell (o := 0) rfl
      have hw1 : IntKind.i64.wrap (x.hi - q) = x.hi - q := IntWalk.i64_in _ (by omega)
      clear h2 h3 hf c0 c1 f1 n1
      go_wp2_with fail
      go_quiet (fail)
      clear hw1
      go_wp2_with fail
      go_ret2
      exact ⟨by rw [Hf.out]; rfl, bdn (bdn B2.out _) _⟩
end LA
end Go.Proofs.Ytenfikfgliljmaa
