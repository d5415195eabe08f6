import Derived.Test.YtenfikfgliljmaaA7
import Derived.Test.YtenfikfgliljmaaQ
namespace Go.Proofs.Ytenfikfgliljmaa
open Go.RowKit
namespace LA
theorem below_of_upd0 {w w' : World} (h : Upd (fun _ => False) w w') : Below w.heap.size w w' := h.below (fun _ h => h.elim) (Nat.le_refl _)

set_option maxHeartbeats 1600000 in
set_option maxRecDepth 100000 in
theorem budget_any (A : Option Addr) (cap0 : Nat) (ys : List Slot) (s : ByteArray) (w : World) (hn : ys.length ≤ 4398046511104) (hr : SlotsAt w A ys) (hok : SlotsOk ys) :
    Calls Try.prog 19 #[.slice A ys.length cap0, .string s] w fun e w' => e = .returned (.int .i64 (budL s ys)) ∧ Below w.heap.size w w' := by
  have HR := hide hr
  have HO := hide hok
  clear hr hok
  go_enter Try.func19, Try.ntmps19
  go_wp2_with fail
  go_loopw [5, 10] (fun v5 v10 wr => ∃ (k : Nat) (t : Int), v10 = .int .i64 k ∧ v5 = .int .i64 t ∧ k ≤ ys.length ∧ 0 ≤ t ∧ t ≤ 65536 * k ∧ Hid (t = budL s (ys.take k)) ∧ Hid (Below w.heap.size w wr)) (fun _ v _ => ys.length - (intOf v).toNat)
  case atStart => exact ⟨0, 0, rfl, rfl, Nat.zero_le _, by omega, by omega, hide rfl, hide (Below.refl _ _)⟩
  case round =>
    obtain ⟨k, t, rfl, rfl, hk, ht0, ht1, HT, HB⟩ := hrel
    by_cases hlt : k < ys.length
    · obtain ⟨b, off, hA, n0, n1, n2⟩ := HR.out k hlt
      subst hA
      obtain ⟨x, hx⟩ : ∃ x, x = ys[k] := ⟨_, rfl⟩
      rw [← hx] at n0 n1 n2
      obtain ⟨o1, o2, o3, o4⟩ := HO.out x (hx ▸ List.getElem_mem hlt)
      have hnext : budL s (ys.take (k + 1)) = budL s (ys.take k) + budGo s x := by
        rw [List.take_succ_eq_append_getElem hlt, budL_append, ← hx]; simp [budL]
      rw [← HT.out] at hnext
      have hbd := budGo_bd s x
      replace n0 := (HB.out.cell (p := ⟨b, off + k * 3, none⟩) (World.block_lt_of_cell? w _ n0)).trans n0
      replace n1 := (HB.out.cell (p := ⟨b, off + k * 3 + 1, none⟩) (World.block_lt_of_cell? w _ n1)).trans n1
      replace n2 := (HB.out.cell (p := ⟨b, off + k * 3 + 2, none⟩) (World.block_lt_of_cell? w _ n2)).trans n2
      have lb : b < wr.heap.size := World.block_lt_of_cell? wr _ n0
      have HB2 : ∀ X, Hid (Below w.heap.size w (wr.alloc X)) := fun X => hide (HB.out.alloc HB.out.size X)
      have HB2' := hide HB2
      obtain ⟨q, hq⟩ : ∃ q, q = budGo s x := ⟨_, rfl⟩
      rw [← hq] at hnext hbd
      have Hnx := hide hnext
      unfold budGo at hq
      clear hx HB2 hnext
      by_cases c1 : x.subj.toList = s.toList
      · have k1 : (x.subj.toList == s.toList) = true := beq_iff_eq.2 c1
        by_cases c2 : 0 ≤ x.lo
        · by_cases c3 : x.lo < x.hi
          · by_cases c4 : x.hi ≤ 65536
            · rw [if_pos ⟨c1, c2, c3, c4⟩] at hq
              have Hq := hide hq
              have C1 := hide c1
              clear c1 hq
              go_wp2
              go_roundw
              case rel => exact ⟨k + 1, t + q, by go_num, by rw [Hq.out], by omega, by omega, by omega, hide Hnx.out.symm, HB2'.out _⟩
              case measure => simp [intOf]; omega
            · rw [if_neg (by omega)] at hq
              subst hq
              clear c1
              go_wp2
              go_roundw
              case rel => exact ⟨k + 1, t, by go_num, rfl, by omega, by omega, by omega, hide (by rw [Hnx.out]; omega), HB2'.out _⟩
              case measure => simp [intOf]; omega
          · rw [if_neg (by omega)] at hq
            subst hq
            clear c1
            go_wp2
            go_roundw
            case rel => exact ⟨k + 1, t, by go_num, rfl, by omega, by omega, by omega, hide (by rw [Hnx.out]; omega), HB2'.out _⟩
            case measure => simp [intOf]; omega
        · rw [if_neg (by omega)] at hq
          subst hq
          clear c1
          go_wp2
          go_roundw
          case rel => exact ⟨k + 1, t, by go_num, rfl, by omega, by omega, by omega, hide (by rw [Hnx.out]; omega), HB2'.out _⟩
          case measure => simp [intOf]; omega
      · have k1 : (x.subj.toList == s.toList) = false := beq_eq_false_iff_ne.2 c1
        rw [if_neg (fun h => c1 h.1)] at hq
        subst hq
        clear c1
        go_wp2
        go_roundw
        case rel => exact ⟨k + 1, t, by go_num, rfl, by omega, by omega, by omega, hide (by rw [Hnx.out]; omega), HB2'.out _⟩
        case measure => simp [intOf]; omega
    · obtain rfl : k = ys.length := by omega
      go_wp2
      go_ret
      have := HT.out
      rw [List.take_length] at this
      exact ⟨by rw [← this]; rfl, HB.out⟩
end LA
end Go.Proofs.Ytenfikfgliljmaa
