/- The reference's Ticks walked. -/
import Derived.Test.YtenfikfgliljmaaMB
import Derived.Test.YtenfikfgliljmaaB6
import Derived.Deep.QuietTactic
import Derived.BigQuiet
/- The reference's Ticks of a lane without needs. -/
namespace Go.Proofs.Ytenfikfgliljmaa
open Go.RowKit
namespace LA
theorem und54 : Try.prog.underlying 54 = some (.slice 3) := by kernel_rfl
theorem info3 : (Try.prog.info? 3).map (fun i => (i.zero, i.size, i.bytes)) = some (some (.int .i64 0), 1, 8) := by kernel_rfl
/-- What Ticks leaves. -/
def TicksPost (L : List Int) (w : World) (e : Ending) (w' : World) : Prop :=
  ∃ g cap, e = .returned (.slice (some ⟨g, 0, none⟩) L.length cap) ∧ w.heap.size ≤ g ∧ (∀ i (h : i < L.length), w'.cell? ⟨g, i, none⟩ = some (.int .i64 L[i])) ∧ Below w.heap.size w w'
theorem TkAt.post {W w : World} {cs : Array Value} {g cap : Nat} {L L' : List Int} (h : TkAt W w cs g cap L) (he : L = L') : TicksPost L' W (.returned (.slice (some ⟨g, 0, none⟩) L.length cap)) w := by
  subst he
  exact ⟨g, cap, rfl, by have := h.own.row.1; omega, h.own.cellAt, h.below⟩

set_option maxHeartbeats 1600000 in
set_option maxRecDepth 100000 in
theorem ticks_runs (M : Nat) (lp lc : Int) (A : Option Addr) (cap0 : Nat) (xs : List Need) (w : World) (hM0 : 1 ≤ M) (hM1 : M ≤ 65536) (hx : xs.length ≤ 2147483648) (hr : RunsAt w A xs) (hb : ∀ x, x ∈ xs → 1 ≤ x.budget ∧ x.budget ≤ 65536) (hs : (runsTicks 0 xs).length ≤ M) :
    Calls Try.prog 52 #[.int .i64 M, laneV lp lc false A xs.length cap0] w (TicksPost (ticksL M xs false) w) := by
  have HR := hide hr
  have HO := hide hb
  have HS := hide hs
  clear hr hb hs
  obtain ⟨i0, hi, hz0, hz1, hz2⟩ := info_parts info3
  have Hi := hide hi; have Hz0 := hide hz0; have Hz1 := hide hz1; have Hz2 := hide hz2
  clear hi hz0 hz1 hz2
  have rb := hide (Row.alloc_new w #[.int .i64 lp, .int .u64 lc, .bool false, .slice A xs.length cap0] 31)
  have HB0 := hide ((Below.refl w.heap.size w).alloc (Nat.le_refl _) (.cells #[.int .i64 lp, .int .u64 lc, .bool false, .slice A xs.length cap0] 31))
  obtain ⟨N, hN⟩ : ∃ N, N = w.heap.size := ⟨_, rfl⟩
  have HN := hide hN
  clear hN
  go_enter Try.func52, Try.ntmps52
  go_wp2_with (at_make; refine wpList_make_own _ rfl _ _ 54 rfl (w.heap.size + 1) 3 i0 (.int .i64 0) 1 und54 Hi.out Hz0.out Hz1.out .i64 .i64 _ M rfl rfl rfl (by rw [Hz2.out]; omega) (by unfold maxLen; omega) (by simp) ?_; intro w0 hown0 hgrow0; have r0 : Row w0 w.heap.size 31 #[.int .i64 lp, .int .u64 lc, .bool false, .slice A xs.length cap0] := (hgrow0.block w.heap.size (by simp) (by simp)).trans rb.out; have c2 := r0.cell (o := 2) rfl; have c3 := r0.cell (o := 3) rfl; have HT0 : Hid (TkAt w w0 #[.int .i64 lp, .int .u64 lc, .bool false, .slice A xs.length cap0] (w.heap.size + 1) M []) := hide ⟨by simpa [IOwn] using hown0, r0, HB0.out.grown hgrow0 (by simp) (by simp)⟩; clear hown0 hgrow0 r0)
  clear c2 c3
  go_loopw [5, 6] (fun v5 v6 wr => ∃ (k : Nat) (L : List Int) (g cap : Nat), v5 = .slice (some ⟨g, 0, none⟩) L.length cap ∧ v6 = .int .i64 k ∧ k ≤ xs.length ∧ Hid (L ++ runsTicks k (xs.drop k) = runsTicks 0 xs) ∧ Hid (TkAt w wr #[.int .i64 lp, .int .u64 lc, .bool false, .slice A xs.length cap0] g cap L)) (fun _ v _ => xs.length - (intOf v).toNat)
  case atStart => exact ⟨0, [], w.heap.size + 1, M, rfl, rfl, Nat.zero_le _, hide rfl, HT0⟩
  case round =>
    obtain ⟨k, L, g, cap, rfl, rfl, hk, HL, HT⟩ := hrel
    have c3 := HT.out.box.cell (o := 3) rfl
    by_cases hlt : k < xs.length
    · obtain ⟨b, off, hA, n0, n1, n2, n3⟩ := HR.out k hlt
      subst hA
      obtain ⟨x, hx⟩ : ∃ x, x = xs[k] := ⟨_, rfl⟩
      rw [← hx] at n2
      obtain ⟨hb0, hb1⟩ := HO.out x (hx ▸ List.getElem_mem hlt)
      have HU : Hid (L ++ List.replicate x.budget.toNat (k : Int) ++ runsTicks (k + 1) (xs.drop (k + 1)) = runsTicks 0 xs) := hide (by
        have := HL.out
        rw [List.drop_eq_getElem_cons hlt, runsTicks, ← hx] at this
        rw [List.append_assoc]; exact this)
      have Hn2 := hide n2
      clear n0 n1 n2 n3 hx HL
      go_wp2_with fail
      go_loopw [5, 7] (fun v5 v7 wr => ∃ (j : Nat) (L : List Int) (g cap : Nat), v5 = .slice (some ⟨g, 0, none⟩) L.length cap ∧ v7 = .int .i64 j ∧ (j : Int) ≤ x.budget ∧ Hid (L ++ List.replicate (x.budget.toNat - j) (k : Int) ++ runsTicks (k + 1) (xs.drop (k + 1)) = runsTicks 0 xs) ∧ Hid (TkAt w wr #[.int .i64 lp, .int .u64 lc, .bool false, .slice (some ⟨b, off, none⟩) xs.length cap0] g cap L)) (fun _ v _ => x.budget.toNat - (intOf v).toNat)
      case atStart => exact ⟨0, L, g, cap, rfl, rfl, by omega, HU, HT⟩
      case round =>
        clear c3
        obtain ⟨j, L, g, cap, rfl, rfl, hj, HL, HT⟩ := hrel
        have c3 := HT.out.box.cell (o := 3) rfl
        have n2 := (HT.out.below.cell (p := ⟨b, off + k * 4 + 2, none⟩) (World.block_lt_of_cell? w _ Hn2.out)).trans Hn2.out
        have hlen : L.length ≤ M := by
          have h1 := congrArg List.length HL.out
          have h2 := HS.out
          simp only [List.length_append] at h1
          omega
        have hbox := HT.out.box.lt
        by_cases hjl : (j : Int) < x.budget
        · go_wp2_with (at_builtin; refine wpList_append_lies _ rfl (.tmp 37) (.tmp 39) 54 rfl (w.heap.size + 1) 3 i0 (.int .i64 0) 1 8 und54 Hi.out Hz0.out Hz1.out Hz2.out rfl (by decide) (.slice (some ⟨g, 0, none⟩) L.length cap) L.length (L.map intV) rfl (HT.out.own.alloc _) ⟨wr.heap.size, 0, none⟩ 1 1 [intV k] rfl rfl (by exact World.news_of_block (cs := #[intV k]) (heap_alloc_new wr _)) (by simp [Value.oneCell']) (by decide) (by unfold maxLen; omega) (by omega) (by simp; omega) (wr.heap.size + 1) (by simp) ?_)
          intro g2 cap2 w2 hown2 hgrow2 hat2 hlt2
          have HT2 := hide (HT.out.app hown2 hgrow2)
          clear hown2 hgrow2 hat2 hlt2 c3 n2
          go_wp2_with fail
          go_roundw
          case rel =>
            refine ⟨j + 1, L ++ [(k : Int)], g2, cap2, by simp, by go_num, by omega, hide ?_, HT2⟩
            have := HL.out
            rw [show x.budget.toNat - j = (x.budget.toNat - (j + 1)) + 1 by omega, List.replicate_succ] at this
            simpa using this
          case measure => simp [intOf]; omega
        · have HV : Hid (L ++ runsTicks (k + 1) (xs.drop (k + 1)) = runsTicks 0 xs) := hide (by
            have := HL.out
            rw [show x.budget.toNat - j = 0 by omega] at this
            simpa using this)
          go_wp2_with fail
          go_roundw
          case rel => exact ⟨k + 1, L, g, cap, rfl, by go_num, by omega, HV, HT⟩
          case measure => simp [intOf]; omega
    · obtain rfl : k = xs.length := by omega
      have HV : Hid (L = runsTicks 0 xs) := hide (by have := HL.out; rw [List.drop_length] at this; simpa [runsTicks] using this)
      clear HL
      go_wp2_with fail
      clear c3
      go_loopw [5] (fun v5 wr => ∃ (j : Nat) (L : List Int) (g cap : Nat), v5 = .slice (some ⟨g, 0, none⟩) L.length cap ∧ L.length ≤ M ∧ Hid (L = runsTicks 0 xs ++ List.replicate j (-1)) ∧ Hid (TkAt w wr #[.int .i64 lp, .int .u64 lc, .bool false, .slice A xs.length cap0] g cap L)) (fun v _ => match v with | .slice _ n _ => M - n | _ => 0)
      case atStart => exact ⟨0, L, g, cap, rfl, by rw [HV.out]; exact HS.out, hide (by simpa using HV.out), HT⟩
      case round =>
        obtain ⟨j, L, g, cap, rfl, hlen, HL, HT⟩ := hrel
        have hbox := HT.out.box.lt
        by_cases hlt : L.length < M
        · go_wp2_with (at_builtin; refine wpList_append_lies _ rfl (.tmp 45) (.tmp 46) 54 rfl (w.heap.size + 1) 3 i0 (.int .i64 0) 1 8 und54 Hi.out Hz0.out Hz1.out Hz2.out rfl (by decide) (.slice (some ⟨g, 0, none⟩) L.length cap) L.length (L.map intV) rfl (HT.out.own.alloc _) ⟨wr.heap.size, 0, none⟩ 1 1 [intV (-1)] rfl rfl (by exact World.news_of_block (cs := #[intV (-1)]) (heap_alloc_new wr _)) (by simp [Value.oneCell']) (by decide) (by unfold maxLen; omega) (by omega) (by simp; omega) (wr.heap.size + 1) (by simp) ?_)
          intro g2 cap2 w2 hown2 hgrow2 hat2 hlt2
          have HT2 := hide (HT.out.app hown2 hgrow2)
          clear hown2 hgrow2 hat2 hlt2
          go_wp2_with fail
          go_roundw
          case rel =>
            refine ⟨j + 1, L ++ [-1], g2, cap2, by simp, by simp; omega, hide ?_, HT2⟩
            rw [List.replicate_succ', ← List.append_assoc, ← HL.out]
          case measure => simp; omega
        · have HW : Hid (L = ticksL M xs false) := hide (by
            unfold ticksL
            rw [if_neg (by simp)]
            have h1 := HL.out
            have h2 := congrArg List.length h1
            simp only [List.length_append, List.length_replicate] at h2
            rw [show M - (runsTicks 0 xs).length = j by omega]
            exact h1)
          clear HL
          go_wp2_with fail
          go_ret
          exact HT.out.post HW.out
end LA
end Go.Proofs.Ytenfikfgliljmaa
/- The reference's Ticks of needs. -/
namespace Go.Proofs.Ytenfikfgliljmaa
open Go.RowKit
namespace LA
set_option maxHeartbeats 3200000 in
set_option maxRecDepth 100000 in
theorem ticks_needs (M : Nat) (lp lc : Int) (A : Option Addr) (cap0 : Nat) (xs : List Need) (w : World) (hM0 : 1 ≤ M) (hM1 : M ≤ 65536) (hx : xs.length ≤ 65536) (hr : RunsAt w A xs) (hb : ∀ x, x ∈ xs → 1 ≤ x.budget ∧ x.budget ≤ 65536 ∧ 1 ≤ x.period ∧ x.period ≤ 65536) :
    Calls Try.prog 52 #[.int .i64 M, laneV lp lc true A xs.length cap0] w (TicksPost (ticksL M xs true) w) := by
  have HR := hide hr
  have HO := hide hb
  clear hr hb
  obtain ⟨i0, hi, hz0, hz1, hz2⟩ := info_parts info3
  have Hi := hide hi; have Hz0 := hide hz0; have Hz1 := hide hz1; have Hz2 := hide hz2
  clear hi hz0 hz1 hz2
  obtain ⟨cs, hcs⟩ : ∃ cs : Array Value, cs = #[.int .i64 lp, .int .u64 lc, .bool true, .slice A xs.length cap0] := ⟨_, rfl⟩
  have Hcs := hide hcs
  have rb := hide (Row.alloc_new w #[.int .i64 lp, .int .u64 lc, .bool true, .slice A xs.length cap0] 31)
  have HB0 := hide ((Below.refl w.heap.size w).alloc (Nat.le_refl _) (.cells #[.int .i64 lp, .int .u64 lc, .bool true, .slice A xs.length cap0] 31))
  clear hcs
  go_enter Try.func52, Try.ntmps52
  go_wp2_with (first
    | (at_make; refine wpList_make_own _ rfl _ _ 54 rfl (w.heap.size + 1) 3 i0 (.int .i64 0) 1 und54 Hi.out Hz0.out Hz1.out .i64 .i64 _ M rfl rfl rfl (by rw [Hz2.out]; omega) (by unfold maxLen; omega) (by simp) ?_
       intro w0 hown0 hgrow0
       have r0 : Row w0 w.heap.size 31 #[.int .i64 lp, .int .u64 lc, .bool true, .slice A xs.length cap0] := (hgrow0.block w.heap.size (by simp) (by simp)).trans rb.out
       have HT0 : Hid (TkAt w w0 cs (w.heap.size + 1) M []) := hide (by rw [Hcs.out]; exact ⟨by simpa [IOwn] using hown0, r0, HB0.out.grown hgrow0 (by simp) (by simp)⟩)
       have hsz0 : w.heap.size + 1 < w0.heap.size := HT0.out.own.lt
       have c2 := r0.cell (o := 2) rfl
       have c3 := r0.cell (o := 3) rfl
       have R0 := hide r0
       clear hown0 hgrow0 r0)
    | (at_make; have HT0' := HT0; clear c2 c3; refine wpList_make_full _ rfl _ _ 54 rfl (w.heap.size + 1) 3 i0 (.int .i64 0) 1 und54 Hi.out Hz0.out Hz1.out .i64 .i64 _ _ xs.length rfl rfl rfl rfl (by rw [Hz2.out]; omega) (by unfold maxLen; omega) (by omega) ?_
       intro w1 hown1 hgrow1
       obtain ⟨hb1, hn1⟩ := NAt.make hown1
       have HU1 : Hid (Upd (fun _ => False) w0 w1) := hide (Upd.of_grownBy hgrow1 (by simp))
       have r1 : Row w1 w.heap.size 31 #[.int .i64 lp, .int .u64 lc, .bool true, .slice A xs.length cap0] := HU1.out.row R0.out (fun h => h)
       have HT1 : Hid (TkAt w w1 cs (w.heap.size + 1) M []) := hide (HT0.out.upd HU1.out (fun _ h => h.elim) (fun h => h))
       have hsz1 : w0.heap.size < w1.heap.size := hn1.lt
       have HN1 := hide hn1
       have c3 := r1.cell (o := 3) rfl
       clear hown1 hgrow1 hn1 HT0 HT0' r1)
    | (at_make; have HT1' := HT1; clear c3; refine wpList_make_full _ rfl _ _ 54 rfl (w.heap.size + 1) 3 i0 (.int .i64 0) 1 und54 Hi.out Hz0.out Hz1.out .i64 .i64 _ _ xs.length rfl rfl rfl rfl (by rw [Hz2.out]; omega) (by unfold maxLen; omega) (by omega) ?_
       intro w2 hown2 hgrow2
       obtain ⟨hb2, hn2⟩ := NAt.make hown2
       have HU2 : Hid (Upd (fun _ => False) w1 w2) := hide (Upd.of_grownBy hgrow2 (by simp))
       have HN2 : Hid (TsAt w w2 cs (w.heap.size + 1) M [] w0.heap.size w1.heap.size xs.length (lfA xs 0 0) (dueA xs 0 0)) := hide
         { tk := HT1.out.upd HU2.out (fun _ h => h.elim) (fun h => h), l := (HN1.out.upd HU2.out (fun h => h)).cong (fun _ _ => rfl), d := hn2.cong (fun _ _ => rfl), bl := by omega, bd := by omega, ld := by omega, gl' := by omega, gd' := by omega }
       clear hown2 hgrow2 hn2 HT1 HT1'))
  generalize w0.heap.size = gl at *
  generalize w1.heap.size = gd at *
  clear R0 HU1 HN1 HU2 hsz0 hsz1 hb1 hb2 rb HB0
  go_loopw [5, 10] (fun v5 v10 wr => ∃ (L : List Int) (g cap : Nat), v5 = .slice (some ⟨g, 0, none⟩) L.length cap ∧ v10 = .int .i64 L.length ∧ L.length ≤ M ∧ Hid (L = (List.range L.length).map (whoI xs)) ∧ Hid (TsAt w wr cs g cap L gl gd xs.length (lfA xs L.length 0) (dueA xs L.length 0))) (fun _ v _ => M - (intOf v).toNat)
  case atStart => exact ⟨[], w.heap.size + 1, M, rfl, rfl, by simp, hide rfl, HN2⟩
  case round =>
    obtain ⟨L, g, cap, rfl, rfl, hlM, HL, HN⟩ := hrel
    have hn0 := HN.out.tk.box.lt
    by_cases hlt : L.length < M
    · go_wp2_with fail
      go_loopw [11, 12] (fun v11 v12 wr => ∃ (i : Nat) (o : Option Nat), v11 = .int .i64 (optI o) ∧ v12 = .int .i64 i ∧ i ≤ xs.length ∧ Hid (o = bestA xs L.length i) ∧ Hid (TsAt w wr cs g cap L gl gd xs.length (lfA xs L.length i) (dueA xs L.length i))) (fun _ v _ => xs.length - (intOf v).toNat)
      case atStart => exact ⟨0, none, rfl, rfl, Nat.zero_le _, hide rfl, HN⟩
      case round =>
        clear HN hn0
        obtain ⟨i, o, rfl, rfl, hi', Ho, HN⟩ := hrel
        have hn0 := HN.out.tk.box.lt
        have c3 : wr.cell? ⟨w.heap.size, 3, none⟩ = some (.slice A xs.length cap0) := HN.out.tk.box.cell (o := 3) (by rw [Hcs.out]; rfl)
        by_cases hi : i < xs.length
        · obtain ⟨b, off, hA, n0, n1, n2, n3⟩ := HR.out i hi
          subst hA
          obtain ⟨x, hx⟩ : ∃ x, x = xs[i] := ⟨_, rfl⟩
          have hg : xs.getD i .zero = x := by rw [hx]; simp [List.getD, hi]
          rw [← hx] at n2 n3
          obtain ⟨hb0, hb1, hp0, hp1⟩ := HO.out x (hx ▸ List.getElem_mem hi)
          obtain ⟨p, hp⟩ := Int.eq_ofNat_of_zero_le (show 0 ≤ x.period by omega)
          obtain ⟨q, hq⟩ := Int.eq_ofNat_of_zero_le (show 0 ≤ x.budget by omega)
          have HP := hide (show Pf xs i = p by unfold Pf; rw [hg, hp]; simp)
          have HQ := hide (show Bf xs i = q by unfold Bf; rw [hg, hq]; simp)
          have lb := World.block_lt_of_cell? w _ n2
          replace n2 := (HN.out.tk.below.cell (p := ⟨b, off + i * 4 + 2, none⟩) lb).trans n2
          replace n3 := (HN.out.tk.below.cell (p := ⟨b, off + i * 4 + 3, none⟩) lb).trans n3
          rw [hq] at n2 hb0 hb1
          rw [hp] at n3 hp0 hp1
          clear n0 n1 hx hg hp hq lb
          have fl := HN.out.l.frozen i
          have fd := HN.out.d.frozen i
          have dl := HN.out.l.cell i hi
          have dd := HN.out.d.cell i hi
          by_cases hm : L.length % p = 0
          · have hm1 : (((L.length : Int) % (p : Int)) == 0) = true := by rw [beq_iff_eq]; omega
            have HN1 := hide (HN.out.setL (fl' := lfA xs L.length (i + 1)) i (q : Int) hi (by rw [lfA_set xs (by rw [HP.out]; exact hm), HQ.out]) (fun j _ e => lfA_other xs e))
            have HN2 := hide (HN1.out.setD (fd' := dueA xs L.length (i + 1)) i ((L.length : Int) + (p : Int)) hi (by rw [dueA_set xs (by rw [HP.out]; exact hm), HP.out]; simp) (fun j _ e => dueA_other xs e))
            have fd1 := HN1.out.d.frozen i
            have dd1 := HN1.out.d.cell i hi
            have Hm := hide hm
            clear hm
            go_wp2_with fail
            clear n2 n3 c3 fl fd dl dd fd1 dd1 hm1
            generalize ((wr.setCell ⟨gl, i, none⟩ (.int .i64 (q : Int))).setCell ⟨gd, i, none⟩ (.int .i64 ((L.length : Int) + (p : Int)))) = W2 at HN2 ⊢
            clear HN1 HN
            have cl := HN2.out.l.cell i hi
            have cd := HN2.out.d.cell i hi
            have fl := HN2.out.l.frozen i
            obtain ⟨l, hl⟩ : ∃ l, l = lfA xs L.length (i + 1) i := ⟨_, rfl⟩
            obtain ⟨d, hd⟩ : ∃ d, d = dueA xs L.length (i + 1) i := ⟨_, rfl⟩
            rw [← hl] at cl
            rw [← hd] at cd
            have Hl := hide hl
            have Hd := hide hd
            clear hl hd
            cases o with
            | none =>
              have HB2 := hide (bestA_succ_none xs Ho.out.symm)
              have e0 : optI none = -1 := rfl
              rw [e0] at *
              by_cases hl0 : 0 < l
              · have t1 : decide (0 < (l : Int)) = true := by simp; omega
                go_quiet (fail)
                all_goals go_wp2_with fail
                all_goals go_roundw
                case rel => exact ⟨i + 1, some i, rfl, by go_num, by omega, hide (by rw [HB2.out, ← Hl.out, if_pos hl0]), hide (HN2.out.drewN _)⟩
                case measure => simp [intOf]; omega
              · have t1 : decide (0 < (l : Int)) = false := by simp; omega
                go_quiet (fail)
                all_goals go_wp2_with fail
                all_goals go_roundw
                case rel => exact ⟨i + 1, none, rfl, by go_num, by omega, hide (by rw [HB2.out, ← Hl.out, if_neg hl0]), hide (HN2.out.drewN _)⟩
                case measure => simp [intOf]; omega
            | some c =>
              have HB2 := hide (bestA_succ_some xs Ho.out.symm)
              have hc := bestA_lt xs Ho.out.symm
              have cc := HN2.out.d.cell c (by omega)
              obtain ⟨dc, hdc⟩ : ∃ dc, dc = dueA xs L.length (i + 1) c := ⟨_, rfl⟩
              rw [← hdc] at cc
              have Hdc := hide hdc
              clear hdc
              have e0 : optI (some c) = (c : Int) := rfl
              rw [e0] at *
              have t0 : decide ((c : Int) < 0) = false := by simp
              by_cases hl0 : 0 < l
              · have t1 : decide (0 < (l : Int)) = true := by simp; omega
                by_cases hd0 : d < dc
                · have t2 : decide ((d : Int) < (dc : Int)) = true := by simp; omega
                  go_quiet (fail)
                  all_goals go_wp2_with fail
                  all_goals go_roundw
                  case rel => exact ⟨i + 1, some i, rfl, by go_num, by omega, hide (by rw [HB2.out, ← Hl.out, ← Hd.out, ← Hdc.out, if_pos ⟨hl0, hd0⟩]), hide (HN2.out.drewN _)⟩
                  case measure => simp [intOf]; omega
                · have t2 : decide ((d : Int) < (dc : Int)) = false := by simp; omega
                  go_quiet (fail)
                  all_goals go_wp2_with fail
                  all_goals go_roundw
                  case rel => exact ⟨i + 1, some c, rfl, by go_num, by omega, hide (by rw [HB2.out, ← Hl.out, ← Hd.out, ← Hdc.out, if_neg (fun h => hd0 h.2)]), hide (HN2.out.drewN _)⟩
                  case measure => simp [intOf]; omega
              · have t1 : decide (0 < (l : Int)) = false := by simp; omega
                go_quiet (fail)
                all_goals go_wp2_with fail
                all_goals go_roundw
                case rel => exact ⟨i + 1, some c, rfl, by go_num, by omega, hide (by rw [HB2.out, ← Hl.out, ← Hd.out, ← Hdc.out, if_neg (fun h => hl0 h.1)]), hide (HN2.out.drewN _)⟩
                case measure => simp [intOf]; omega
          · have hm1 : (((L.length : Int) % (p : Int)) == 0) = false := by rw [beq_eq_false_iff_ne]; omega
            have HN2 := hide (HN.out.cong (fl' := lfA xs L.length (i + 1)) (fd' := dueA xs L.length (i + 1)) (fun j _ => lfA_keep xs (by rw [HP.out]; exact hm) j) (fun j _ => dueA_keep xs (by rw [HP.out]; omega) (by rw [HP.out]; exact hm) j))
            have Hm := hide hm
            clear hm
            go_wp2_with fail
            clear n2 n3 c3 fl fd dl dd hm1 HN
            have cl := HN2.out.l.cell i hi
            have cd := HN2.out.d.cell i hi
            have fl := HN2.out.l.frozen i
            obtain ⟨l, hl⟩ : ∃ l, l = lfA xs L.length (i + 1) i := ⟨_, rfl⟩
            obtain ⟨d, hd⟩ : ∃ d, d = dueA xs L.length (i + 1) i := ⟨_, rfl⟩
            rw [← hl] at cl
            rw [← hd] at cd
            have Hl := hide hl
            have Hd := hide hd
            clear hl hd
            cases o with
            | none =>
              have HB2 := hide (bestA_succ_none xs Ho.out.symm)
              have e0 : optI none = -1 := rfl
              rw [e0] at *
              by_cases hl0 : 0 < l
              · have t1 : decide (0 < (l : Int)) = true := by simp; omega
                go_quiet (fail)
                all_goals go_wp2_with fail
                all_goals go_roundw
                case rel => exact ⟨i + 1, some i, rfl, by go_num, by omega, hide (by rw [HB2.out, ← Hl.out, if_pos hl0]), hide (HN2.out.drewN _)⟩
                case measure => simp [intOf]; omega
              · have t1 : decide (0 < (l : Int)) = false := by simp; omega
                go_quiet (fail)
                all_goals go_wp2_with fail
                all_goals go_roundw
                case rel => exact ⟨i + 1, none, rfl, by go_num, by omega, hide (by rw [HB2.out, ← Hl.out, if_neg hl0]), hide (HN2.out.drewN _)⟩
                case measure => simp [intOf]; omega
            | some c =>
              have HB2 := hide (bestA_succ_some xs Ho.out.symm)
              have hc := bestA_lt xs Ho.out.symm
              have cc := HN2.out.d.cell c (by omega)
              obtain ⟨dc, hdc⟩ : ∃ dc, dc = dueA xs L.length (i + 1) c := ⟨_, rfl⟩
              rw [← hdc] at cc
              have Hdc := hide hdc
              clear hdc
              have e0 : optI (some c) = (c : Int) := rfl
              rw [e0] at *
              have t0 : decide ((c : Int) < 0) = false := by simp
              by_cases hl0 : 0 < l
              · have t1 : decide (0 < (l : Int)) = true := by simp; omega
                by_cases hd0 : d < dc
                · have t2 : decide ((d : Int) < (dc : Int)) = true := by simp; omega
                  go_quiet (fail)
                  all_goals go_wp2_with fail
                  all_goals go_roundw
                  case rel => exact ⟨i + 1, some i, rfl, by go_num, by omega, hide (by rw [HB2.out, ← Hl.out, ← Hd.out, ← Hdc.out, if_pos ⟨hl0, hd0⟩]), hide (HN2.out.drewN _)⟩
                  case measure => simp [intOf]; omega
                · have t2 : decide ((d : Int) < (dc : Int)) = false := by simp; omega
                  go_quiet (fail)
                  all_goals go_wp2_with fail
                  all_goals go_roundw
                  case rel => exact ⟨i + 1, some c, rfl, by go_num, by omega, hide (by rw [HB2.out, ← Hl.out, ← Hd.out, ← Hdc.out, if_neg (fun h => hd0 h.2)]), hide (HN2.out.drewN _)⟩
                  case measure => simp [intOf]; omega
              · have t1 : decide (0 < (l : Int)) = false := by simp; omega
                go_quiet (fail)
                all_goals go_wp2_with fail
                all_goals go_roundw
                case rel => exact ⟨i + 1, some c, rfl, by go_num, by omega, hide (by rw [HB2.out, ← Hl.out, ← Hd.out, ← Hdc.out, if_neg (fun h => hl0 h.1)]), hide (HN2.out.drewN _)⟩
                case measure => simp [intOf]; omega
        · obtain rfl : i = xs.length := by omega
          cases o with
          | none =>
            have e0 : optI none = -1 := rfl
            rw [e0]
            have HW := hide (show whoI xs L.length = -1 by rw [← bestA_who, ← Ho.out]; rfl)
            have HN3 := hide (HN.out.cong (fl' := lfA xs (L.length + 1) 0) (fd' := dueA xs (L.length + 1) 0) (fun j hj => lfA_next_none xs Ho.out.symm j hj) (fun j hj => dueA_next xs j hj))
            clear e0
            go_wp2_with (at_builtin; refine wpList_append_lies _ rfl (.tmp 125) (.tmp 127) 54 rfl (w.heap.size + 1) 3 i0 (.int .i64 0) 1 8 und54 Hi.out Hz0.out Hz1.out Hz2.out rfl (by decide) (.slice (some ⟨g, 0, none⟩) L.length cap) L.length (L.map intV) rfl (HN3.out.tk.own.alloc _) ⟨wr.heap.size, 0, none⟩ 1 1 [intV (-1)] rfl rfl (by exact World.news_of_block (cs := #[intV (-1)]) (heap_alloc_new wr _)) (by simp [Value.oneCell']) (by decide) (by unfold maxLen; omega) (by omega) (by simp; omega) (wr.heap.size + 1) (by simp) ?_)
            intro g2 cap2 w2 hown2 hgrow2 hat2 hlt2
            have HN4 := hide (HN3.out.app hown2 hgrow2 hat2)
            clear hown2 hgrow2 hat2 hlt2 c3
            go_wp2_with fail
            go_roundw
            case rel =>
              refine ⟨L ++ [(-1)], g2, cap2, by simp, by simp, by simp; omega, hide ?_, ?_⟩
              · rw [List.length_append, List.length_singleton, List.range_succ, List.map_append, List.map_singleton, HW.out, ← HL.out]
              · rw [List.length_append, List.length_singleton]; exact HN4
            case measure => simp [intOf]; omega
          | some c =>
            have e0 : optI (some c) = (c : Int) := rfl
            rw [e0]
            have HW := hide (show whoI xs L.length = c by rw [← bestA_who, ← Ho.out]; rfl)
            have hc := bestA_lt xs Ho.out.symm
            have hpos := bestA_pos xs Ho.out.symm
            have cl := HN.out.l.cell c hc
            have fl := HN.out.l.frozen c
            obtain ⟨l, hl⟩ : ∃ l, l = lfA xs L.length xs.length c := ⟨_, rfl⟩
            have hl2 : l ≤ 65536 := by
              have h1 := lfA_le xs Ho.out.symm
              have h2 : Bf xs c ≤ 65536 := by
                have h3 := HO.out xs[c] (List.getElem_mem hc)
                unfold Bf
                rw [show xs.getD c .zero = xs[c] by simp [List.getD, hc]]
                omega
              omega
            rw [← hl] at cl hpos
            have HN3 := hide ((HN.out.setL (fl' := lfA xs (L.length + 1) 0) c ((l : Int) - 1) hc (by rw [lfA_next_some xs Ho.out.symm c hc, if_pos rfl, ← hl]; omega) (fun j hj e => by rw [lfA_next_some xs Ho.out.symm j hj, if_neg e])).cong (fun _ _ => rfl) (fun j hj => dueA_next xs j hj))
            have hn0' : (wr.setCell ⟨gl, c, none⟩ (.int .i64 ((l : Int) - 1))).heap.size = wr.heap.size := by simp
            have Hsz := hide hn0'
            clear e0 hl hn0'
            go_wp2_with (at_builtin; refine wpList_append_lies _ rfl (.tmp 125) (.tmp 127) 54 rfl (w.heap.size + 1) 3 i0 (.int .i64 0) 1 8 und54 Hi.out Hz0.out Hz1.out Hz2.out rfl (by decide) (.slice (some ⟨g, 0, none⟩) L.length cap) L.length (L.map intV) rfl (HN3.out.tk.own.alloc _) ⟨wr.heap.size, 0, none⟩ 1 1 [intV (c : Int)] rfl rfl (by exact World.news_of_block (cs := #[intV (c : Int)]) (by have := heap_alloc_new (wr.setCell ⟨gl, c, none⟩ (.int .i64 ((l : Int) - 1))) (.cells #[intV (c : Int)] 3); rw [Hsz.out] at this; exact this)) (by simp [Value.oneCell']) (by decide) (by unfold maxLen; omega) (by omega) (by simp; omega) (wr.heap.size + 1) (by simp) ?_)
            intro g2 cap2 w2 hown2 hgrow2 hat2 hlt2
            have HN4 := hide (HN3.out.app hown2 hgrow2 (by rw [Hsz.out]; exact hat2))
            clear hown2 hgrow2 hat2 hlt2 c3
            go_wp2_with fail
            go_roundw
            case rel =>
              refine ⟨L ++ [(c : Int)], g2, cap2, by simp, by simp, by simp; omega, hide ?_, ?_⟩
              · rw [List.length_append, List.length_singleton, List.range_succ, List.map_append, List.map_singleton, HW.out, ← HL.out]
              · rw [List.length_append, List.length_singleton]; exact HN4
            case measure => simp [intOf]; omega
    · have HW : Hid (L = ticksL M xs true) := hide (by
        have h1 := HL.out
        rw [show L.length = M by omega] at h1
        unfold ticksL; rw [if_pos rfl]; exact h1)
      go_wp2_with fail
      go_ret
      exact HN.out.tk.post HW.out
end LA
end Go.Proofs.Ytenfikfgliljmaa
