import Derived.Test.YtenfikfgliljmaaC1
namespace Go.Proofs.Ytenfikfgliljmaa
open Go.RowKit
namespace LA
theorem ahead_succ {ys : List Slot} {k : Nat} (h : k < ys.length) : ahead ys (k + 1) = some ys[k].subj := by simp [ahead, h]

set_option maxHeartbeats 800000 in
set_option maxRecDepth 100000 in
theorem length_any (A : Option Addr) (cap0 : Nat) (ys : List Slot) (w : World) (hn : ys.length ≤ 4398046511104) (hr : SlotsAt w A ys) (hok : SlotsOk ys) :
    Calls Try.prog 44 #[.slice A ys.length cap0] w fun e w' => e = .returned (.int .i64 (rowLen ys)) ∧ Below w.heap.size w w' := by
  have HR := hide hr
  have HO := hide hok
  clear hr hok
  go_enter Try.func44, Try.ntmps44
  go_wp2_with fail
  go_loopw [3, 8] (fun v3 v8 wr => ∃ (k : Nat) (e : Int), v8 = .int .i64 k ∧ v3 = .int .i64 e ∧ k ≤ ys.length ∧ Hid (rowGo (ahead ys k) e (ys.drop k) = rowLen ys) ∧ Hid (Below w.heap.size w wr)) (fun _ v _ => ys.length - (intOf v).toNat)
  case atStart => exact ⟨0, 0, rfl, rfl, Nat.zero_le _, hide rfl, hide (Below.refl _ _)⟩
  case round =>
    obtain ⟨k, e, rfl, rfl, hk, HT, HB⟩ := hrel
    by_cases hlt : k < ys.length
    · obtain ⟨b, off, hA, n0, n1, n2⟩ := HR.out k hlt
      subst hA
      obtain ⟨x, hx⟩ : ∃ x, x = ys[k] := ⟨_, rfl⟩
      rw [← hx] at n0 n1 n2
      have hdr : ys.drop k = x :: ys.drop (k + 1) := by rw [hx]; exact List.drop_eq_getElem_cons hlt
      have hgo := HT.out
      rw [hdr, rowGo] at hgo
      replace n0 := (HB.out.cell (p := ⟨b, off + k * 3, none⟩) (World.block_lt_of_cell? w _ n0)).trans n0
      replace n1 := (HB.out.cell (p := ⟨b, off + k * 3 + 1, none⟩) (World.block_lt_of_cell? w _ n1)).trans n1
      replace n2 := (HB.out.cell (p := ⟨b, off + k * 3 + 2, none⟩) (World.block_lt_of_cell? w _ n2)).trans n2
      have lb : b < wr.heap.size := World.block_lt_of_cell? wr _ n0
      have HB2 : ∀ X m, Hid (Below w.heap.size w ((wr.alloc X).drewN m)) := fun X m => hide (HB.out.trans ((Upd.alloc (S := fun _ => False) wr X).trans (Upd.drewN (S := fun _ => False) _ m) (fun _ h => .inl h) |>.below (fun _ h => h.elim) HB.out.size))
      have HB2' := hide HB2
      have Hx := hide hx
      clear hx HB2 hdr
      by_cases c1 : x.lo = e
      · subst c1
        by_cases c2 : x.hi ≤ x.lo
        · rw [if_pos (by omega)] at hgo
          have Hgo := hide hgo
          clear hgo
          go_wp2_with fail
          go_quiet (fail)
          go_wp2_with fail
          go_ret
          exact ⟨by rw [← Hgo.out]; rfl, HB2'.out _ _⟩
        · have k2 : decide (x.hi ≤ x.lo) = false := by simp; omega
          have c3 : x.lo < x.hi := by omega
          by_cases h0 : k = 0
          · have ha : sameB (ahead ys k) x.subj = false := by rw [h0]; rfl
            rw [ha, if_neg (by simp; omega)] at hgo
            have Hgo := hide hgo
            have hd0 : decide (0 < k) = false := by simp; omega
            have H0 := hide h0
            clear hgo ha h0 c2
            go_wp2_with fail
            go_quiet (fail)
            clear hd0
            go_wp2_with fail
            go_roundw
            case rel => exact ⟨k + 1, x.hi, by go_num, rfl, by omega, hide (by rw [ahead_succ hlt, ← Hx.out]; exact Hgo.out), HB2'.out _ _⟩
            case measure => simp [intOf]; omega
          · obtain ⟨b', off', hA', m0, m1, m2⟩ := HR.out (k - 1) (by omega)
            cases hA'
            obtain ⟨z, hz⟩ : ∃ z, z = ys[k - 1] := ⟨_, rfl⟩
            rw [← hz] at m0
            replace m0 := (HB.out.cell (p := ⟨b, off + (k - 1) * 3, none⟩) (World.block_lt_of_cell? w _ m0)).trans m0
            have ha : sameB (ahead ys k) x.subj = (x.subj.toList == z.subj.toList) := by
              rw [show k = (k - 1) + 1 by omega, ahead_succ (by omega), ← hz]; rfl
            rw [ha] at hgo
            clear m1 m2 hz ha c2
            have hd1 : decide (0 < k) = true := by simp; omega
            have hw1 : IntKind.i64.wrap ((k : Int) - 1) = (k : Int) - 1 := IntWalk.i64_in _ (by omega)
            have hk1 : 0 ≤ (k : Int) - 1 := by omega
            have hk2 : (k : Int) - 1 < ys.length := by omega
            cases hb : (x.subj.toList == z.subj.toList) with
            | true =>
              rw [hb, if_pos (by simp)] at hgo
              have Hgo := hide hgo
              clear hgo
              go_wp2_with fail
              go_quiet (fail)
              clear hd1 hw1
              go_wp2_with fail
              go_ret
              exact ⟨by rw [← Hgo.out]; rfl, HB2'.out _ _⟩
            | false =>
              rw [hb, if_neg (by simp; omega)] at hgo
              have Hgo := hide hgo
              clear hgo
              go_wp2_with fail
              go_quiet (fail)
              clear hd1 hw1
              go_wp2_with fail
              go_roundw
              case rel => exact ⟨k + 1, x.hi, by go_num, rfl, by omega, hide (by rw [ahead_succ hlt, ← Hx.out]; exact Hgo.out), HB2'.out _ _⟩
              case measure => simp [intOf]; omega
      · rw [if_pos (.inl c1)] at hgo
        have k1 : (x.lo == e) = false := beq_eq_false_iff_ne.2 c1
        have k2 : (x.lo != e) = true := by rw [bne_iff_ne]; exact c1
        have Hgo := hide hgo
        clear hgo c1
        go_wp2_with fail
        go_quiet (fail)
        go_wp2_with fail
        go_ret
        exact ⟨by rw [← Hgo.out]; rfl, HB2'.out _ _⟩
    · obtain rfl : k = ys.length := by omega
      go_wp2
      go_ret
      have := HT.out
      rw [List.drop_length, rowGo] at this
      exact ⟨by rw [← this]; rfl, HB.out⟩
end LA
end Go.Proofs.Ytenfikfgliljmaa
