import Derived.Test.YtenfikfgliljmaaD1
import Derived.Test.YtenfikfgliljmaaCC
namespace Go.Proofs.Ytenfikfgliljmaa
open Go.RowKit
namespace LA
/-- The stints, one behind the other; the second: all is known. -/
def atGo (M o : Int) : List Stint → Know → Know × Bool
  | [], q => (q, true)
  | x :: r, q => if 0 < x.ticks then (if (takeL M o q x.subj x.ticks).2 = true then atGo M o r (takeL M o q x.subj x.ticks).1 else ((takeL M o q x.subj x.ticks).1, false)) else atGo M o r q
/-- What At tells. -/
def atL (xs : List Stint) (M o : Int) : Int × Int :=
  if o < 0 ∨ M ≤ o then (-1, 0)
  else
    let p := atGo M o xs ⟨0, -1, 0⟩
    let q := if p.2 = true then (takeL M o p.1 (-1) M).1 else p.1
    (q.who, q.left)

theorem takeL_bd {M o : Int} {q : Know} {s t : Int} (ho : 0 ≤ o) (h0 : 0 ≤ q.e) (h1 : q.e < M) (hl0 : 0 ≤ q.left) (hl1 : q.left ≤ q.e) (ht : 1 ≤ t) (h : (takeL M o q s t).2 = true) :
    0 ≤ (takeL M o q s t).1.e ∧ (takeL M o q s t).1.e < M ∧ 0 ≤ (takeL M o q s t).1.left ∧ (takeL M o q s t).1.left ≤ (takeL M o q s t).1.e := by
  obtain ⟨e, who, l⟩ := q
  simp only at h0 h1 hl0 hl1
  unfold takeL at h ⊢
  simp only at h ⊢
  split at h
  · rename_i c1; rw [if_pos c1]; simp only [decide_eq_true_eq] at h; simp only; omega
  · rename_i c1
    rw [if_neg c1]
    split at h
    · rename_i c2; rw [if_pos c2]; simp only [decide_eq_true_eq] at h; simp only; omega
    · rename_i c2
      rw [if_neg c2]
      split at h
      · rename_i c3; rw [if_pos c3]; simp only [decide_eq_true_eq] at h; simp only; omega
      · simp at h

def AtPost (xs : List Stint) (M o : Int) (w : World) (e : Ending) (w' : World) : Prop :=
  e = .returned (.tuple #[.int .i64 (atL xs M o).1, .int .i64 (atL xs M o).2]) ∧ Below w.heap.size w w'

theorem at_start (w : World) (M o : Int) : AtVars (((((w.alloc (.cells #[.int .i64 M] 3)).alloc (.cells #[.int .i64 o] 3)).alloc (.cells #[.int .i64 (-1)] 3)).alloc (.cells #[.int .i64 0] 3)).alloc (.cells #[.int .i64 0] 3)) (w.heap.size + 1 + 1 + 1 + 1) w.heap.size (w.heap.size + 1) (w.heap.size + 1 + 1 + 1) (w.heap.size + 1 + 1) M o ⟨0, -1, 0⟩ := by
  have r0 := Row.alloc_new w #[.int .i64 M] 3
  have r1 := Row.alloc_new (w.alloc (.cells #[.int .i64 M] 3)) #[.int .i64 o] 3
  have r2 := Row.alloc_new ((w.alloc (.cells #[.int .i64 M] 3)).alloc (.cells #[.int .i64 o] 3)) #[.int .i64 (-1)] 3
  have r3 := Row.alloc_new (((w.alloc (.cells #[.int .i64 M] 3)).alloc (.cells #[.int .i64 o] 3)).alloc (.cells #[.int .i64 (-1)] 3)) #[.int .i64 0] 3
  have r4 := Row.alloc_new ((((w.alloc (.cells #[.int .i64 M] 3)).alloc (.cells #[.int .i64 o] 3)).alloc (.cells #[.int .i64 (-1)] 3)).alloc (.cells #[.int .i64 0] 3)) #[.int .i64 0] 3
  simp only [World.size_alloc] at r1 r2 r3 r4
  exact ⟨r4, (((r0.alloc _).alloc _).alloc _).alloc _, ((r1.alloc _).alloc _).alloc _, r3.alloc _, (r2.alloc _).alloc _⟩

set_option maxHeartbeats 800000 in
set_option maxRecDepth 100000 in
theorem at_any (A : Option Addr) (cap0 : Nat) (xs : List Stint) (M o : Int) (w : World) (hn : xs.length ≤ 8796093022208) (hM0 : -9223372036854775808 ≤ M) (hM1 : M ≤ 9223372036854775807) (ho0 : -9223372036854775808 ≤ o) (ho1 : o ≤ 9223372036854775807) (hr : StintsAt w A xs) (hok : StintsOk xs) :
    Calls Try.prog 25 #[.slice A xs.length cap0, .int .i64 M, .int .i64 o] w (AtPost xs M o w) := by
  have hb2 : Below w.heap.size w ((w.alloc (.cells #[.int .i64 M] 3)).alloc (.cells #[.int .i64 o] 3)) := ((Below.refl _ w).alloc (Nat.le_refl _) _).alloc (by simp) _
  by_cases hneg : o < 0
  · have H := hide (show atL xs M o = (-1, 0) by unfold atL; rw [if_pos (.inl hneg)])
    have H2 := hide hb2
    clear hr hok hb2
    go_enter Try.func25, Try.ntmps25
    go_wp2_with fail
    go_ret2
    exact ⟨by rw [H.out]; rfl, H2.out⟩
  by_cases hge : M ≤ o
  · have H := hide (show atL xs M o = (-1, 0) by unfold atL; rw [if_pos (.inr hge)])
    have H2 := hide hb2
    clear hr hok hb2
    go_enter Try.func25, Try.ntmps25
    go_wp2_with fail
    go_ret2
    exact ⟨by rw [H.out]; rfl, H2.out⟩
  have HR := hide hr
  have HO := hide hok
  clear hr hok
  have hmf : ∀ (fn : Fn) (first cap : Array Value) (w : World), (Instr.makeFunc fn first cap).run Try.prog w = .ok (.func fn first cap) w := fun _ _ _ _ => rfl
  have HA := at_start w M o
  have HF : Five (w.heap.size + 1 + 1 + 1 + 1) w.heap.size (w.heap.size + 1) (w.heap.size + 1 + 1 + 1) (w.heap.size + 1 + 1) := ⟨by omega, by omega, by omega, by omega, by omega, by omega, by omega, by omega, by omega, by omega⟩
  have HBl : Below w.heap.size w (((((w.alloc (.cells #[.int .i64 M] 3)).alloc (.cells #[.int .i64 o] 3)).alloc (.cells #[.int .i64 (-1)] 3)).alloc (.cells #[.int .i64 0] 3)).alloc (.cells #[.int .i64 0] 3)) := ((hb2.alloc (by simp; omega) _).alloc (by simp; omega) _).alloc (by simp; omega) _
  have HA' := hide HA
  have HF' := hide HF
  have HB' := hide HBl
  clear HA HF HBl hb2
  go_enter Try.func25, Try.ntmps25
  go_wp2_with fail
  clear hmf
  generalize hW5 : (((((w.alloc (.cells #[.int .i64 M] 3)).alloc (.cells #[.int .i64 o] 3)).alloc (.cells #[.int .i64 (-1)] 3)).alloc (.cells #[.int .i64 0] 3)).alloc (.cells #[.int .i64 0] 3)) = W5 at HA' HB' ⊢
  have hge : w.heap.size ≤ w.heap.size + 1 + 1 + 1 + 1 ∧ w.heap.size ≤ w.heap.size + 1 + 1 + 1 ∧ w.heap.size ≤ w.heap.size + 1 + 1 := by omega
  generalize w.heap.size + 1 + 1 + 1 + 1 = pe at hge HA' HF' ⊢
  generalize w.heap.size + 1 + 1 + 1 = pl at hge HA' HF' ⊢
  generalize w.heap.size + 1 + 1 = pw at hge HA' HF' ⊢
  generalize w.heap.size + 1 = po at HA' HF' ⊢
  have HG := hide hge
  clear hge hW5
  have Hbw := hide (show ∀ W W', Below w.heap.size w W → Upd (fun b => b = pe ∨ b = pl ∨ b = pw) W W' → Below w.heap.size w W' from fun W W' h1 h2 => by
    have hg := HG.out
    refine h1.trans (h2.below ?_ h1.size)
    rintro b (rfl | rfl | rfl)
    · exact hg.1
    · exact hg.2.1
    · exact hg.2.2)
  obtain ⟨N, hN⟩ : ∃ N, N = w.heap.size := ⟨_, rfl⟩
  have HN := hide hN
  rw [← hN] at HA' HF' ⊢
  clear hN
  have hmm : 1 ≤ M := by omega
  go_loopw [24] (fun v24 wr => ∃ (k : Nat) (q : Know), v24 = .int .i64 k ∧ k ≤ xs.length ∧ 0 ≤ q.e ∧ q.e < M ∧ 0 ≤ q.left ∧ q.left ≤ q.e ∧ Hid (AtVars wr pe N po pl pw M o q) ∧ Hid (atGo M o (xs.drop k) q = atGo M o xs ⟨0, -1, 0⟩) ∧ Hid (Below w.heap.size w wr)) (fun v _ => xs.length - (intOf v).toNat)
  case atStart => exact ⟨0, ⟨0, -1, 0⟩, rfl, Nat.zero_le _, by simp, by simp only; omega, by simp, by simp, HA', hide rfl, HB'⟩
  case round =>
    obtain ⟨k, q, rfl, hk, q0, q1, q2, q3, HV, HC, HB⟩ := hrel
    by_cases hlt : k < xs.length
    · obtain ⟨b, off, hA, n0, n1⟩ := HR.out k hlt
      subst hA
      obtain ⟨x, hx⟩ : ∃ x, x = xs[k] := ⟨_, rfl⟩
      rw [← hx] at n0 n1
      obtain ⟨o1, o2, o3, o4⟩ := HO.out x (hx ▸ List.getElem_mem hlt)
      have hdr : xs.drop k = x :: xs.drop (k + 1) := by rw [hx]; exact List.drop_eq_getElem_cons hlt
      have hC := HC.out
      rw [hdr, atGo] at hC
      replace n0 := (HB.out.cell (p := ⟨b, off + k * 2, none⟩) (World.block_lt_of_cell? w _ n0)).trans n0
      replace n1 := (HB.out.cell (p := ⟨b, off + k * 2 + 1, none⟩) (World.block_lt_of_cell? w _ n1)).trans n1
      have lb : b < wr.heap.size := World.block_lt_of_cell? wr _ n0
      have HVa := hide (HV.out.upd (Upd.alloc (S := fun _ => False) wr (.cells #[.int .i64 x.subj, .int .i64 x.ticks] 47)) id id id id id)
      have HBa := hide (HB.out.alloc HB.out.size (.cells #[.int .i64 x.subj, .int .i64 x.ticks] 47))
      clear hx hdr
      rcases Int.lt_or_le 0 x.ticks with hp | hp
      · rw [if_pos hp] at hC
        have Hta := hide (take_any pe N po pl pw M o q.e q.who q.left x.subj x.ticks _ HF'.out HVa.out hmm hM1 q0 q1 (by omega) (by omega) (by omega) o4 q2 q3 o1 o2)
        have HC2 := hide hC
        clear hC
        go_wp2_with fail
        refine Hta.out.mono ?_
        rintro e w1 ⟨he, hv1, hu1⟩
        have hbd := takeL_bd (M := M) (o := o) (q := q) (s := x.subj) (t := x.ticks) (by omega) q0 q1 q2 q3 (by omega)
        change e = .returned (.bool (takeL M o q x.subj x.ticks).2) at he
        change AtVars w1 pe N po pl pw M o (takeL M o q x.subj x.ticks).1 at hv1
        have HB1 := hide (Hbw.out _ _ HBa.out hu1)
        have hcc := HC2.out
        generalize takeL M o q x.subj x.ticks = r at he hv1 hbd hcc
        obtain ⟨r1, r2⟩ := r
        simp only at he hv1 hbd hcc
        clear n0 n1 lb hu1
        cases r2 with
        | true =>
          obtain ⟨d1, d2, d3, d4⟩ := hbd rfl
          rw [if_pos rfl] at hcc
          have HCC := hide hcc
          have HV1 := hide hv1
          subst he
          clear hcc hv1 hbd
          go_wp2_with fail
          go_roundw
          case rel => exact ⟨k + 1, r1, by go_num, by omega, d1, d2, d3, d4, HV1, HCC, HB1⟩
          case measure => simp [intOf]; omega
        | false =>
          rw [if_neg (by simp)] at hcc
          have HCC := hide hcc
          have cl := hv1.rl.cell (o := 0) rfl
          have cw := hv1.rw.cell (o := 0) rfl
          subst he
          clear hcc hv1 hbd
          go_wp2_with fail
          go_quiet (fail)
          go_wp2_with fail
          go_ret2
          refine ⟨?_, bdn HB1.out _⟩
          have : atL xs M o = (r1.who, r1.left) := by unfold atL; rw [if_neg (by omega), ← HCC.out]; rfl
          rw [this]; rfl
      · rw [if_neg (by omega)] at hC
        have HC2 := hide hC
        clear hC
        go_wp2_with fail
        go_roundw
        case rel => exact ⟨k + 1, q, by go_num, by omega, q0, q1, q2, q3, HVa, HC2, HBa⟩
        case measure => simp [intOf]; omega
    · obtain rfl : k = xs.length := by omega
      have hC := HC.out
      rw [List.drop_length, atGo] at hC
      have HCC := hide hC
      have cm := HV.out.rm.cell (o := 0) rfl
      have Hta := hide (take_any pe N po pl pw M o q.e q.who q.left (-1) M _ HF'.out HV.out hmm hM1 q0 q1 (by omega) (by omega) hmm hM1 q2 q3 (by omega) (by omega))
      clear hC
      go_wp2_with fail
      refine Hta.out.mono ?_
      rintro e w1 ⟨he, hv1, hu1⟩
      have HB1 := hide (Hbw.out _ _ HB.out hu1)
      have hfin : atL xs M o = ((takeL M o q (-1) M).1.who, (takeL M o q (-1) M).1.left) := by unfold atL; rw [if_neg (by omega), ← HCC.out]; rfl
      have HFin := hide hfin
      clear hfin
      change e = .returned (.bool (takeL M o q (-1) M).2) at he
      change AtVars w1 pe N po pl pw M o (takeL M o q (-1) M).1 at hv1
      generalize takeL M o q (-1) M = r at he hv1 HFin
      obtain ⟨r1, r2⟩ := r
      simp only at he hv1
      have cl := hv1.rl.cell (o := 0) rfl
      have cw := hv1.rw.cell (o := 0) rfl
      subst he
      clear hu1 hv1 cm
      go_wp2_with fail
      go_quiet (fail)
      go_wp2_with fail
      go_ret2
      exact ⟨by rw [HFin.out]; rfl, bdn HB1.out _⟩
end LA
end Go.Proofs.Ytenfikfgliljmaa
