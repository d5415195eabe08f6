/- bulkheadlaw9.LanesWindows returns true. -/
import Derived.Test.YtenfikfgliljmaaKV
import Derived.Test.YtenfikfgliljmaaMC
import Derived.Test.YtenfikfgliljmaaN0
import Derived.Deep.RegionHeld3
import Derived.Deep.QuietTactic
import Derived.BigQuiet
namespace Go.Proofs.Ytenfikfgliljmaa
open Go.RowKit
namespace LA
/-- The counts, where the names up to i are looked at. -/
def cnI (row : List Slot) (M f : Nat) (ns : List ByteArray) (k i j : Nat) : Nat := if j < i then cn (hitW row M f (ns.getD j ⟨#[]⟩)) (k + 1) else cn (hitW row M f (ns.getD j ⟨#[]⟩)) k
theorem cnI_zero {row : List Slot} {M f : Nat} {ns : List ByteArray} {k j : Nat} : cnI row M f ns k 0 j = cn (hitW row M f (ns.getD j ⟨#[]⟩)) k := by unfold cnI; rw [if_neg (by omega)]
theorem cnI_other {row : List Slot} {M f : Nat} {ns : List ByteArray} {k i j : Nat} (e : j ≠ i) : cnI row M f ns k (i + 1) j = cnI row M f ns k i j := by
  unfold cnI
  by_cases e2 : j < i
  · rw [if_pos (by omega), if_pos e2]
  · rw [if_neg (by omega), if_neg e2]
theorem cnI_hit {row : List Slot} {M f : Nat} {ns : List ByteArray} {k i : Nat} (h : hitW row M f (ns.getD i ⟨#[]⟩) k = true) : cnI row M f ns k (i + 1) i = cnI row M f ns k i i + 1 := by
  unfold cnI; rw [if_pos (by omega), if_neg (by omega), cn, if_pos h]
theorem cnI_miss {row : List Slot} {M f : Nat} {ns : List ByteArray} {k i : Nat} (h : hitW row M f (ns.getD i ⟨#[]⟩) k = false) (j : Nat) : cnI row M f ns k (i + 1) j = cnI row M f ns k i j := by
  by_cases e : j = i
  · subst e; unfold cnI; rw [if_pos (by omega), if_neg (by omega), cn, h]; simp
  · exact cnI_other e
theorem cnI_end {row : List Slot} {M f : Nat} {ns : List ByteArray} {k n j : Nat} (h : j < n) : cnI row M f ns k n j = cn (hitW row M f (ns.getD j ⟨#[]⟩)) (k + 1) := by unfold cnI; rw [if_pos h]
theorem cnI_le {row : List Slot} {M f : Nat} {ns : List ByteArray} {k i j : Nat} : cnI row M f ns k i j ≤ k + 1 := by
  unfold cnI
  have := cn_le (hitW row M f (ns.getD j ⟨#[]⟩)) k
  have := cn_le (hitW row M f (ns.getD j ⟨#[]⟩)) (k + 1)
  split <;> omega
set_option maxHeartbeats 12800000 in
set_option maxRecDepth 100000 in
theorem lanesWindows_any (major lp lc from' : Int) (needs : Bool) (A : Option Addr) (cap0 : Nat) (xs : List Need) (w : World) (hm0 : 0 ≤ major) (hm1 : major ≤ 18446744073709551615) (hf0 : -9223372036854775808 ≤ from') (hf1 : from' ≤ 9223372036854775807) (hn : xs.length ≤ 9223372036854775807) (hr : RunsAt w A xs) (hok : ∀ x, x ∈ xs → x.ok) :
    Calls Try.prog 10 #[.int .u64 major, laneV lp lc needs A xs.length cap0, .int .i64 from'] w (TruePost w) := by
  obtain ⟨M, rfl⟩ := Int.eq_ofNat_of_zero_le hm0
  have r0 := Row.alloc_new w #[.int .i64 lp, .int .u64 lc, .bool needs, .slice A xs.length cap0] 31
  have HB0 := hide ((Below.refl w.heap.size w).alloc (Nat.le_refl _) (.cells #[.int .i64 lp, .int .u64 lc, .bool needs, .slice A xs.length cap0] 31))
  have HR1 := hide (hr.below HB0.out)
  have R0 := hide r0
  have HO := hide hok
  have HK := hide known_any
  have HWi := hide (fun W => within_any from' W hf0 hf1)
  have HGr := hide (fun W => great_any (M : Int) lp lc needs A xs.length cap0 W (by omega) hm1 hn)
  clear hr r0 hok hf0 hf1
  go_enter Try.func10, Try.ntmps10
  go_wp2_with fail
  generalize w.alloc (.cells #[.int .i64 lp, .int .u64 lc, .bool needs, .slice A xs.length cap0] 31) = w1 at HB0 HR1 R0 ⊢
  have lw := R0.out.lt
  refine (HGr.out w1).mono ?_
  rintro e w2 ⟨rfl, hb⟩
  have HB2 : Hid (Below w.heap.size w w2) := hide (HB0.out.trans (hb.mono (by omega)))
  have R2 : Hid (Row w2 w.heap.size 31 #[.int .i64 lp, .int .u64 lc, .bool needs, .slice A xs.length cap0]) := hide ((hb.block _ lw).trans R0.out)
  have HR2 := hide (HR1.out.below hb)
  have lw2 := R2.out.lt
  clear hb
  cases hg : greatL (M : Int) xs.length needs with
  | true =>
    go_wp2_with fail
    refine (HK.out _).mono ?_
    rintro e w9 ⟨rfl, hb9⟩
    have HB9 : Hid (Below w.heap.size w w9) := hide (HB2.out.trans (hb9.mono (by have := HB2.out.size; omega)))
    clear hb9
    go_wp2_with fail
    go_ret
    exact ⟨rfl, HB9.out⟩
  | false =>
    have hn5 : xs.length ≤ 5000 := by
      unfold greatL at hg
      simp at hg
      omega
    have HF := hide (flatten_any (M : Int) lp lc needs A cap0 xs w2 (by omega) hm1 (by omega) HR2.out HO.out)
    have c0 := R2.out.cell (o := 0) rfl
    have c1 := R2.out.cell (o := 1) rfl
    have c2 := R2.out.cell (o := 2) rfl
    have c3 := R2.out.cell (o := 3) rfl
    clear hg
    rcases flat_cases M xs needs HO.out with ⟨i1, r1, hr1, hfl⟩ | ⟨hM0, hM1, N, hN, hNl, hfl⟩
    · have Hfl := hide hfl
      have hr2 : (r1 != 0) = true := by rw [bne_iff_ne]; exact hr1
      have hr3 : (r1 == 0) = false := by rw [beq_eq_false_iff_ne]; exact hr1
      have Hr1 := hide hr1
      clear hfl hr1
      go_wp2_with fail
      refine HF.out.mono ?_
      intro e w8 hp8
      obtain ⟨v, rfl, hv, hb⟩ := flat_at Hfl.out hp8
      obtain rfl := sval_none hv
      have HB8 : Hid (Below w.heap.size w w8) := hide (HB2.out.trans (hb.mono (by omega)))
      clear hv hb hp8 c0 c1 c2 c3
      go_wp2_with fail
      refine (HK.out _).mono ?_
      rintro e w9 ⟨rfl, hb9⟩
      have HB9 : Hid (Below w.heap.size w w9) := hide (HB8.out.trans (hb9.mono (by have := HB8.out.size; omega)))
      clear hb9
      go_wp2_with fail
      go_ret
      exact ⟨rfl, HB9.out⟩
    · obtain ⟨row, hrow⟩ : ∃ row, row = rowTk N := ⟨_, rfl⟩
      rw [← hrow] at hNl hfl
      have Hfl := hide hfl
      have HTR : Hid (TickRow M N row) := hide (by rw [hrow, ← hN]; exact tickRow N (by omega))
      have HWn : Hid (∀ (s : ByteArray) (f : Nat), (cn (hitW row M f s) M : Int) = budL s row) := hide (fun s f => by rw [hrow, ← hN]; exact window s f (by omega) (by omega))
      have hpos : 0 < row.length := by
        rw [hrow]
        cases hl : (rowTk N) with
        | nil => have := (rowTk_facts N).2.2; rw [hl] at this; simp only [endFrom] at this; omega
        | cons y r => simp
      clear hfl hrow hN
      go_wp2_with fail
      refine HF.out.mono ?_
      intro e w8 hp8
      obtain ⟨v, rfl, hv, hb⟩ := flat_at Hfl.out hp8
      obtain ⟨gs, ks, rfl, hgs, hsl⟩ := sval_some hv hpos
      have R8 : Hid (Row w8 w.heap.size 31 #[.int .i64 lp, .int .u64 lc, .bool needs, .slice A xs.length cap0]) := hide ((hb.block _ lw2).trans R2.out)
      have HR8 := hide (HR2.out.below hb)
      have HSl := hide hsl
      have HB8 : Hid (Below w.heap.size w w8) := hide (HB2.out.trans (hb.mono (by omega)))
      have lw8 := R8.out.lt
      clear hv hb hp8 c0 c1 c2 c3 hsl
      have m0 : 0 ≤ (M : Int) * (row.length : Int) := Int.mul_nonneg (by omega) (by omega)
      have m1 : (M : Int) * (row.length : Int) ≤ 65536 * 4096 := Int.mul_le_mul (by omega) (by omega) (by omega) (by omega)
      have mw : IntKind.i64.wrap ((M : Int) * (row.length : Int)) = (M : Int) * (row.length : Int) := IntWalk.i64_in _ (by omega)
      have HSc : Hid (∀ W (f u : Nat), SlotsAt W (some ⟨gs, 0, none⟩) row → Calls Try.prog 17 #[.slice (some ⟨gs, 0, none⟩) row.length ks, .int .i64 ((f + u : Nat) : Int)] W fun e w' => e = .returned (.tuple #[.string (findAt (((f + u) % M : Nat) : Int) row).1, .int .i64 (findAt (((f + u) % M : Nat) : Int) row).2]) ∧ Below W.heap.size W w') := hide (fun W f u h => by
        have := sched_any (some ⟨gs, 0, none⟩) ks row ((f + u : Nat) : Int) W (by omega) h HTR.out.ok
        rwa [sched_window HTR.out hM0] at this)
      by_cases hbig : 3000000 < (M : Int) * (row.length : Int)
      · skip
        go_wp2_with fail
        refine (HK.out _).mono ?_
        rintro e w9 ⟨rfl, hb9⟩
        have HB9 : Hid (Below w.heap.size w w9) := hide (HB8.out.trans (hb9.mono (by have := HB8.out.size; omega)))
        clear hb9
        go_wp2_with fail
        go_ret
        exact ⟨rfl, HB9.out⟩
      go_wp2_with fail
      refine (HWi.out w8).mono ?_
      rintro e w9 ⟨f, hf, rfl, rfl⟩
      clear m0 m1 mw hbig
      go_wp2_with fail
      have HS0 := hide (SOwn.first w8 ⟨#[]⟩)
      have HL0 := hide ((Below.refl w8.heap.size w8).alloc (Nat.le_refl _) (.cells #[.string ⟨#[]⟩] 9))
      go_loopw [10, 11] (fun v10 v11 wr => ∃ (i : Nat) (ns : List ByteArray) (g cap : Nat), v10 = .slice (some ⟨g, 0, none⟩) ns.length cap ∧ v11 = .int .i64 i ∧ i ≤ xs.length ∧ i ≤ 20 ∧ ns.length ≤ i + 1 ∧ 1 ≤ ns.length ∧ Hid (SOwn wr w8.heap.size g cap ns) ∧ Hid (Below w8.heap.size w8 wr)) (fun _ v _ => 20 - (intOf v).toNat)
      case atStart => exact ⟨0, [⟨#[]⟩], w8.heap.size, 1, rfl, rfl, Nat.zero_le _, by omega, by simp, by simp, HS0, HL0⟩
      case round =>
        obtain ⟨i, ns, g, cap, rfl, rfl, hi, hi20, hns, hns1, HS, HL⟩ := hrel
        have HBw : Hid (Below w.heap.size w wr) := hide (HB8.out.trans (HL.out.mono (by omega)))
        have Rw : Hid (Row wr w.heap.size 31 #[.int .i64 lp, .int .u64 lc, .bool needs, .slice A xs.length cap0]) := hide ((HL.out.block _ lw8).trans R8.out)
        have HRw := hide (HR8.out.below HL.out)
        have c3 := Rw.out.cell (o := 3) rfl
        have hgl := HS.out.row
        have hsz := HL.out.size
        by_cases hlt : i < xs.length ∧ i < 20
        · obtain ⟨hlt, h20⟩ := hlt
          obtain ⟨b1, off, hA, n0, n1, n2, n3⟩ := HRw.out i hlt
          subst hA
          obtain ⟨s1, hs1⟩ : ∃ s1, s1 = xs[i].subj := ⟨_, rfl⟩
          rw [← hs1] at n1
          obtain ⟨i0, hi', hz0, hz1, hz2⟩ := info_parts info9
          have Hi := hide hi'; have Hz0 := hide hz0; have Hz1 := hide hz1; have Hz2 := hide hz2
          clear hi' hz0 hz1 hz2 n0 n2 n3 hs1
          go_wp2_with (at_builtin; refine wpList_append_lies _ rfl (.tmp 54) (.tmp 61) 57 rfl w8.heap.size 9 i0 (.string ⟨#[]⟩) 1 16 und57 Hi.out Hz0.out Hz1.out Hz2.out rfl (by decide) (.slice (some ⟨g, 0, none⟩) ns.length cap) ns.length (ns.map Value.string) rfl (HS.out.alloc _) ⟨wr.heap.size, 0, none⟩ 1 1 [.string s1] rfl rfl (by exact World.news_of_block (cs := #[.string s1]) (heap_alloc_new wr _)) (by simp [Value.oneCell']) (by decide) (by unfold maxLen; omega) (by omega) (by simp; omega) (wr.heap.size + 1) (by simp) ?_)
          intro g2 cap2 w4 hown2 hgrow2 hat2 hlt2
          have HS4 : Hid (SOwn w4 w8.heap.size g2 cap2 (ns ++ [s1])) := hide (by unfold SOwn; rw [List.length_append, List.map_append]; exact hown2)
          have HL4 : Hid (Below w8.heap.size w8 w4) := hide ((HL.out.alloc hsz _).grown hgrow2 (by simp; omega) (by simp [Value.ownBlock]; omega))
          clear hown2 hgrow2 hat2 hlt2 c3 n1
          go_wp2_with fail
          go_roundw
          case rel => exact ⟨i + 1, ns ++ [s1], g2, cap2, by simp, by go_num, by omega, by omega, by simp; omega, by simp, HS4, HL4⟩
          case measure => simp [intOf]; omega
        · have hx : ¬ (i < xs.length) ∨ ¬ (i < 20) := by omega
          obtain ⟨i0, hi', hz0, hz1, hz2⟩ := info_parts info3
          have Hi := hide hi'; have Hz0 := hide hz0; have Hz1 := hide hz1; have Hz2 := hide hz2
          have hnl : ns.length ≤ 21 := by omega
          clear hi' hz0 hz1 hz2 hlt
          rcases hx with hx | hx
          · skip
            go_wp2_with (at_make; refine wpList_make_full _ rfl _ _ 54 rfl wr.heap.size 3 i0 (.int .i64 0) 1 und54 Hi.out Hz0.out Hz1.out .i64 .i64 _ _ ns.length rfl rfl rfl rfl (by rw [Hz2.out]; omega) (by unfold maxLen; omega) (by omega) ?_; intro w10 hown10 hgrow10; have HU10 := hide (NAt.make hown10).2; have HL10 := hide ((Below.refl wr.heap.size wr).grown hgrow10 (Nat.le_refl _) (by simp)); clear hown10 hgrow10)
            clear c3 hx HS0 HL0 HBw Rw HRw
            generalize hwn : wr = wn at *
            clear hwn
            have HSn : Hid (∀ i (h : i < ns.length), wn.cell? ⟨g, i, none⟩ = some (.string ns[i])) := hide HS.out.cellAt
            have HSlw := hide (HSl.out.below HL.out)
            obtain ⟨hg1, hg2⟩ := hgl
            generalize hgc : wn.heap.size = gc at *
            have Hgc := hide hgc
            clear hgc
            go_loopw [13] (fun v13 wr => ∃ (k : Nat), v13 = .int .i64 ((f + k : Nat) : Int) ∧ k ≤ M ∧ Hid (NAt wr gc ns.length (fun j => cn (hitW row M f (ns.getD j ⟨#[]⟩)) k)) ∧ Hid (Below gc wn wr)) (fun v _ => f + M - (intOf v).toNat)
            case atStart => exact ⟨0, rfl, Nat.zero_le _, HU10, HL10⟩
            case round =>
              clear HU10 HL10
              obtain ⟨k, rfl, hk, HU, HLq⟩ := hrel
              have HSq := hide (HSlw.out.below (by rw [Hgc.out]; exact HLq.out))
              by_cases hkM : k < M
              · have htst : decide (((f + k : Nat) : Int) < (f : Int) + (M : Int)) = true := by simp; omega
                go_wp2_with fail
                refine (HSc.out wr f k HSq.out).mono ?_
                rintro e w11 ⟨rfl, hb11⟩
                obtain ⟨who, hwho⟩ : ∃ who, who = (findAt (((f + k) % M : Nat) : Int) row).1 := ⟨_, rfl⟩
                obtain ⟨more, hmore⟩ : ∃ more, more = (findAt (((f + k) % M : Nat) : Int) row).2 := ⟨_, rfl⟩
                rw [← hwho, ← hmore]
                have Hwho := hide hwho
                have hul := HU.out.lt
                have HU1 : Hid (NAt w11 gc ns.length (cnI row M f ns k 0)) := hide (by
                  obtain ⟨cur, q1, q2, q3⟩ := HU.out
                  exact ⟨cur, (hb11.block _ hul).trans q1, q2, fun i h => by rw [q3 i h, cnI_zero]⟩)
                have HL1 : Hid (Below gc wn w11) := hide (HLq.out.trans (hb11.mono (by have := HLq.out.size; omega)))
                clear hwho hmore hb11 htst
                go_wp2_with fail
                go_loopw [16] (fun v16 wr => ∃ (i : Nat), v16 = .int .i64 i ∧ i ≤ ns.length ∧ Hid (NAt wr gc ns.length (cnI row M f ns k i)) ∧ Hid (Below gc wn wr)) (fun v _ => ns.length - (intOf v).toNat)
                case atStart => exact ⟨0, rfl, Nat.zero_le _, HU1, HL1⟩
                case round =>
                  clear HU HLq HSq HU1 HL1 hul
                  obtain ⟨i, rfl, hi', HU, HLq⟩ := hrel
                  by_cases hil : i < ns.length
                  · have nc := (HLq.out.cell (p := ⟨g, i, none⟩) hg2).trans (HSn.out i hil)
                    obtain ⟨sn, hsn⟩ : ∃ sn, sn = ns[i] := ⟨_, rfl⟩
                    rw [← hsn] at nc
                    have hgd : ns.getD i ⟨#[]⟩ = sn := by rw [hsn]; simp [List.getD, hil]
                    have Hgd := hide hgd
                    clear hsn hgd
                    by_cases hh : sn.toList == who.toList
                    · have hh' : (sn.toList == who.toList) = true := hh
                      have Hhit : Hid (hitW row M f (ns.getD i ⟨#[]⟩) k = true) := hide (by unfold hitW; rw [Hgd.out, ← Hwho.out]; exact hh)
                      have uc := HU.out.cell i hil
                      have uf := HU.out.frozen i
                      have hcl := cnI_le (row := row) (M := M) (f := f) (ns := ns) (k := k) (i := i) (j := i)
                      obtain ⟨r, hr⟩ : ∃ r, r = cnI row M f ns k i i := ⟨_, rfl⟩
                      rw [← hr] at uc hcl
                      have HU2 : Hid (NAt (wr.setCell ⟨gc, i, none⟩ (.int .i64 ((r : Int) + 1))) gc ns.length (cnI row M f ns k (i + 1))) := hide (HU.out.set i _ hil (by rw [cnI_hit Hhit.out, ← hr]; rfl) (fun j _ e => cnI_other e))
                      clear hh hr
                      go_wp2_with fail
                      go_roundw
                      case rel => exact ⟨i + 1, by go_num, by omega, HU2, hide (HLq.out.setCell (Nat.le_refl _) _)⟩
                      case measure => simp [intOf]; omega
                    · have hh' : (sn.toList == who.toList) = false := by simpa using hh
                      have Hhit : Hid (hitW row M f (ns.getD i ⟨#[]⟩) k = false) := hide (by unfold hitW; rw [Hgd.out, ← Hwho.out]; exact hh')
                      clear hh
                      go_wp2_with fail
                      go_roundw
                      case rel => exact ⟨i + 1, by go_num, by omega, hide (HU.out.cong (fun j _ => cnI_miss Hhit.out j)), HLq⟩
                      case measure => simp [intOf]; omega
                  · obtain rfl : i = ns.length := by omega
                    go_wp2_with fail
                    go_roundw
                    case rel => exact ⟨k + 1, by go_num, by omega, hide (HU.out.cong (fun j hj => (cnI_end hj).symm)), HLq⟩
                    case measure => simp [intOf]; omega
              · obtain rfl : k = M := by omega
                have htst : decide (((f + k : Nat) : Int) < (f : Int) + (k : Int)) = false := by simp
                have HUe : Hid (∀ i (h : i < ns.length), wr.cell? ⟨gc, i, none⟩ = some (.int .i64 (cn (hitW row k f (ns.getD i ⟨#[]⟩)) k : Nat))) := hide (fun i h => HU.out.cell i h)
                have HNe : Hid (∀ i (h : i < ns.length), wr.cell? ⟨g, i, none⟩ = some (.string ns[i])) := hide (fun i h => (HLq.out.cell (p := ⟨g, i, none⟩) hg2).trans (HSn.out i h))
                have HSe := hide (HSlw.out.below (by rw [Hgc.out]; exact HLq.out))
                have HBe : Hid (Below w.heap.size w wr) := hide (HB8.out.trans ((HL.out.mono (by omega)).trans (HLq.out.mono (by omega))))
                have hge : g < wr.heap.size := by have h1 := HLq.out.size; have h2 := Hgc.out; omega
                have hce : gc < wr.heap.size := HU.out.lt
                clear HU HLq htst
                go_wp2_with fail
                generalize hwe : wr = we at *
                clear hwe
                rw [show ((f + k : Nat) : Int) = (f : Int) + (k : Int) from by simp]
                go_loopw [17] (fun v17 wr => ∃ (i : Nat), v17 = .int .i64 i ∧ i ≤ ns.length ∧ Hid (Below we.heap.size we wr)) (fun v _ => ns.length - (intOf v).toNat)
                case atStart => exact ⟨0, rfl, Nat.zero_le _, hide (Below.refl _ _)⟩
                case round =>
                  obtain ⟨i, rfl, hi', HZ⟩ := hrel
                  by_cases hil : i < ns.length
                  · obtain ⟨sn, hsn⟩ : ∃ sn, sn = ns[i] := ⟨_, rfl⟩
                    have hgd : ns.getD i ⟨#[]⟩ = sn := by rw [hsn]; simp [List.getD, hil]
                    have n0 := HNe.out i hil
                    rw [← hsn] at n0
                    have u0 := HUe.out i hil
                    rw [hgd] at u0
                    obtain ⟨c, hc⟩ : ∃ c, c = cn (hitW row k f sn) k := ⟨_, rfl⟩
                    rw [← hc] at u0
                    have hbud : budL sn row = (c : Int) := by rw [hc]; exact (HWn.out sn f).symm
                    have hcle : c ≤ k := by rw [hc]; exact cn_le _ _
                    obtain ⟨r, hpr, hord⟩ := part_some (b := (c : Int)) (m := (k : Int)) (by omega) (by omega) (by omega) (by omega) (by omega)
                    have hrl := HTR.out.len
                    have HN0 := hide n0
                    have HU0 := hide u0
                    have HBu : Hid (∀ W, Below we.heap.size we W → Calls Try.prog 19 #[.slice (some ⟨gs, 0, none⟩) row.length ks, .string sn] W fun e w' => e = .returned (.int .i64 c) ∧ Below we.heap.size we w' ∧ w'.cell? ⟨g, i, none⟩ = some (.string sn) ∧ w'.cell? ⟨gc, i, none⟩ = some (.int .i64 c)) := hide (fun W hW => by
                      have h := budget_any (some ⟨gs, 0, none⟩) ks row sn W (by omega) ((HSe.out).below hW) HTR.out.ok
                      rw [hbud] at h
                      refine h.mono ?_
                      rintro e w' ⟨rfl, hb⟩
                      have hb' := hW.trans (hb.mono hW.size)
                      exact ⟨rfl, hb', (hb'.cell (p := ⟨g, i, none⟩) hge).trans HN0.out, (hb'.cell (p := ⟨gc, i, none⟩) hce).trans HU0.out⟩)
                    have HSh : Hid (∀ W, Below we.heap.size we W → Calls Try.prog 21 #[.slice (some ⟨gs, 0, none⟩) row.length ks, .string sn] W fun e w' => e = .returned (.float .f64 r) ∧ Below we.heap.size we w' ∧ w'.cell? ⟨g, i, none⟩ = some (.string sn) ∧ w'.cell? ⟨gc, i, none⟩ = some (.int .i64 c)) := hide (fun W hW => by
                      have h := share_any (some ⟨gs, 0, none⟩) ks row sn W (by omega) ((HSe.out).below hW) HTR.out.ok r (fun e => by omega) (fun _ => by rw [hbud, hrl]; exact hpr)
                      refine h.mono ?_
                      rintro e w' ⟨rfl, hb⟩
                      have hb' := hW.trans (hb.mono hW.size)
                      exact ⟨rfl, hb', (hb'.cell (p := ⟨g, i, none⟩) hge).trans HN0.out, (hb'.cell (p := ⟨gc, i, none⟩) hce).trans HU0.out⟩)
                    have cv1 : ∀ (w : World), (convert 3 40 (.int .i64 (c : Int))).run Try.prog w = .ok (.float .f64 (floatOfInt .f64 (c : Int))) w := fun w => run_convert_int_float w 3 40 .i64 .f64 _ (by kernel_rfl) (by kernel_rfl)
                    have cv2 : ∀ (w : World), (convert 26 40 (.int .u64 (k : Int))).run Try.prog w = .ok (.float .f64 (floatOfInt .f64 (k : Int))) w := fun w => run_convert_int_float w 26 40 .u64 .f64 _ (by kernel_rfl) (by kernel_rfl)
                    have cq : ∀ w : World, (binOp .quo 40 (.float .f64 (floatOfInt .f64 (c : Int))) (.float .f64 (floatOfInt .f64 (k : Int)))).run Try.prog w = .ok (.float .f64 r) w := fun w => run_float_arith w .quo 40 .f64 _ _ r hpr
                    have heq2 : FloatKind.f64.format.order r r = some Ordering.eq := hord
                    have heq : (FloatKind.f64.format.order r r == some Ordering.eq) = true := by rw [heq2]; rfl
                    have hgn : ((c : Int) != (c : Int)) = false := by simp
                    have hZ := HZ.out
                    have nc : wr.cell? ⟨g, i, none⟩ = some (.string sn) := (hZ.cell (p := ⟨g, i, none⟩) hge).trans n0
                    have uc : wr.cell? ⟨gc, i, none⟩ = some (.int .i64 c) := (hZ.cell (p := ⟨gc, i, none⟩) hce).trans u0
                    have hZd : Below we.heap.size we wr.drew := hZ.drew
                    have ncd : wr.drew.cell? ⟨g, i, none⟩ = some (.string sn) := nc
                    have ucd : wr.drew.cell? ⟨gc, i, none⟩ = some (.int .i64 c) := uc
                    clear hsn hgd hc hbud hrl hpr hord n0 u0
                    go_wp2_with fail
                    go_region_held3 (fun W => Below we.heap.size we W ∧ W.cell? ⟨g, i, none⟩ = some (.string sn) ∧ W.cell? ⟨gc, i, none⟩ = some (.int .i64 (c : Int))) (first | exact ⟨hZd, ncd, ucd⟩ | exact ⟨hZ, nc, uc⟩ | exact ⟨by assumption, by assumption, by assumption⟩ | (simp [*])) (first | (go_at_call 19; refine (HBu.out _ (by assumption)).mono ?_; rintro e w' ⟨rfl, h1, h2, h3⟩) | (go_at_call 21; refine (HSh.out _ (by assumption)).mono ?_; rintro e w' ⟨rfl, h1, h2, h3⟩))
                    go_wp2_with fail
                    go_roundw
                    case rel => exact ⟨i + 1, by go_num, by omega, hide (by assumption)⟩
                    case measure => simp [intOf]; omega
                  · go_wp2_with fail
                    refine (HK.out _).mono ?_
                    rintro e w9 ⟨rfl, hb9⟩
                    have HB9 : Hid (Below w.heap.size w w9) := hide ((HBe.out.trans (HZ.out.mono HBe.out.size)).trans (hb9.mono (by have := (HBe.out.trans (HZ.out.mono HBe.out.size)).size; omega)))
                    clear hb9
                    go_wp2_with fail
                    go_ret
                    exact ⟨rfl, HB9.out⟩
          · by_cases hx2 : i < xs.length
            · skip
              go_wp2_with (at_make; refine wpList_make_full _ rfl _ _ 54 rfl wr.heap.size 3 i0 (.int .i64 0) 1 und54 Hi.out Hz0.out Hz1.out .i64 .i64 _ _ ns.length rfl rfl rfl rfl (by rw [Hz2.out]; omega) (by unfold maxLen; omega) (by omega) ?_; intro w10 hown10 hgrow10; have HU10 := hide (NAt.make hown10).2; have HL10 := hide ((Below.refl wr.heap.size wr).grown hgrow10 (Nat.le_refl _) (by simp)); clear hown10 hgrow10)
              clear c3 hx HS0 HL0 HBw Rw HRw
              generalize hwn : wr = wn at *
              clear hwn
              have HSn : Hid (∀ i (h : i < ns.length), wn.cell? ⟨g, i, none⟩ = some (.string ns[i])) := hide HS.out.cellAt
              have HSlw := hide (HSl.out.below HL.out)
              obtain ⟨hg1, hg2⟩ := hgl
              generalize hgc : wn.heap.size = gc at *
              have Hgc := hide hgc
              clear hgc
              go_loopw [13] (fun v13 wr => ∃ (k : Nat), v13 = .int .i64 ((f + k : Nat) : Int) ∧ k ≤ M ∧ Hid (NAt wr gc ns.length (fun j => cn (hitW row M f (ns.getD j ⟨#[]⟩)) k)) ∧ Hid (Below gc wn wr)) (fun v _ => f + M - (intOf v).toNat)
              case atStart => exact ⟨0, rfl, Nat.zero_le _, HU10, HL10⟩
              case round =>
                clear HU10 HL10
                obtain ⟨k, rfl, hk, HU, HLq⟩ := hrel
                have HSq := hide (HSlw.out.below (by rw [Hgc.out]; exact HLq.out))
                by_cases hkM : k < M
                · have htst : decide (((f + k : Nat) : Int) < (f : Int) + (M : Int)) = true := by simp; omega
                  go_wp2_with fail
                  refine (HSc.out wr f k HSq.out).mono ?_
                  rintro e w11 ⟨rfl, hb11⟩
                  obtain ⟨who, hwho⟩ : ∃ who, who = (findAt (((f + k) % M : Nat) : Int) row).1 := ⟨_, rfl⟩
                  obtain ⟨more, hmore⟩ : ∃ more, more = (findAt (((f + k) % M : Nat) : Int) row).2 := ⟨_, rfl⟩
                  rw [← hwho, ← hmore]
                  have Hwho := hide hwho
                  have hul := HU.out.lt
                  have HU1 : Hid (NAt w11 gc ns.length (cnI row M f ns k 0)) := hide (by
                    obtain ⟨cur, q1, q2, q3⟩ := HU.out
                    exact ⟨cur, (hb11.block _ hul).trans q1, q2, fun i h => by rw [q3 i h, cnI_zero]⟩)
                  have HL1 : Hid (Below gc wn w11) := hide (HLq.out.trans (hb11.mono (by have := HLq.out.size; omega)))
                  clear hwho hmore hb11 htst
                  go_wp2_with fail
                  go_loopw [16] (fun v16 wr => ∃ (i : Nat), v16 = .int .i64 i ∧ i ≤ ns.length ∧ Hid (NAt wr gc ns.length (cnI row M f ns k i)) ∧ Hid (Below gc wn wr)) (fun v _ => ns.length - (intOf v).toNat)
                  case atStart => exact ⟨0, rfl, Nat.zero_le _, HU1, HL1⟩
                  case round =>
                    clear HU HLq HSq HU1 HL1 hul
                    obtain ⟨i, rfl, hi', HU, HLq⟩ := hrel
                    by_cases hil : i < ns.length
                    · have nc := (HLq.out.cell (p := ⟨g, i, none⟩) hg2).trans (HSn.out i hil)
                      obtain ⟨sn, hsn⟩ : ∃ sn, sn = ns[i] := ⟨_, rfl⟩
                      rw [← hsn] at nc
                      have hgd : ns.getD i ⟨#[]⟩ = sn := by rw [hsn]; simp [List.getD, hil]
                      have Hgd := hide hgd
                      clear hsn hgd
                      by_cases hh : sn.toList == who.toList
                      · have hh' : (sn.toList == who.toList) = true := hh
                        have Hhit : Hid (hitW row M f (ns.getD i ⟨#[]⟩) k = true) := hide (by unfold hitW; rw [Hgd.out, ← Hwho.out]; exact hh)
                        have uc := HU.out.cell i hil
                        have uf := HU.out.frozen i
                        have hcl := cnI_le (row := row) (M := M) (f := f) (ns := ns) (k := k) (i := i) (j := i)
                        obtain ⟨r, hr⟩ : ∃ r, r = cnI row M f ns k i i := ⟨_, rfl⟩
                        rw [← hr] at uc hcl
                        have HU2 : Hid (NAt (wr.setCell ⟨gc, i, none⟩ (.int .i64 ((r : Int) + 1))) gc ns.length (cnI row M f ns k (i + 1))) := hide (HU.out.set i _ hil (by rw [cnI_hit Hhit.out, ← hr]; rfl) (fun j _ e => cnI_other e))
                        clear hh hr
                        go_wp2_with fail
                        go_roundw
                        case rel => exact ⟨i + 1, by go_num, by omega, HU2, hide (HLq.out.setCell (Nat.le_refl _) _)⟩
                        case measure => simp [intOf]; omega
                      · have hh' : (sn.toList == who.toList) = false := by simpa using hh
                        have Hhit : Hid (hitW row M f (ns.getD i ⟨#[]⟩) k = false) := hide (by unfold hitW; rw [Hgd.out, ← Hwho.out]; exact hh')
                        clear hh
                        go_wp2_with fail
                        go_roundw
                        case rel => exact ⟨i + 1, by go_num, by omega, hide (HU.out.cong (fun j _ => cnI_miss Hhit.out j)), HLq⟩
                        case measure => simp [intOf]; omega
                    · obtain rfl : i = ns.length := by omega
                      go_wp2_with fail
                      go_roundw
                      case rel => exact ⟨k + 1, by go_num, by omega, hide (HU.out.cong (fun j hj => (cnI_end hj).symm)), HLq⟩
                      case measure => simp [intOf]; omega
                · obtain rfl : k = M := by omega
                  have htst : decide (((f + k : Nat) : Int) < (f : Int) + (k : Int)) = false := by simp
                  have HUe : Hid (∀ i (h : i < ns.length), wr.cell? ⟨gc, i, none⟩ = some (.int .i64 (cn (hitW row k f (ns.getD i ⟨#[]⟩)) k : Nat))) := hide (fun i h => HU.out.cell i h)
                  have HNe : Hid (∀ i (h : i < ns.length), wr.cell? ⟨g, i, none⟩ = some (.string ns[i])) := hide (fun i h => (HLq.out.cell (p := ⟨g, i, none⟩) hg2).trans (HSn.out i h))
                  have HSe := hide (HSlw.out.below (by rw [Hgc.out]; exact HLq.out))
                  have HBe : Hid (Below w.heap.size w wr) := hide (HB8.out.trans ((HL.out.mono (by omega)).trans (HLq.out.mono (by omega))))
                  have hge : g < wr.heap.size := by have h1 := HLq.out.size; have h2 := Hgc.out; omega
                  have hce : gc < wr.heap.size := HU.out.lt
                  clear HU HLq htst
                  go_wp2_with fail
                  generalize hwe : wr = we at *
                  clear hwe
                  rw [show ((f + k : Nat) : Int) = (f : Int) + (k : Int) from by simp]
                  go_loopw [17] (fun v17 wr => ∃ (i : Nat), v17 = .int .i64 i ∧ i ≤ ns.length ∧ Hid (Below we.heap.size we wr)) (fun v _ => ns.length - (intOf v).toNat)
                  case atStart => exact ⟨0, rfl, Nat.zero_le _, hide (Below.refl _ _)⟩
                  case round =>
                    obtain ⟨i, rfl, hi', HZ⟩ := hrel
                    by_cases hil : i < ns.length
                    · obtain ⟨sn, hsn⟩ : ∃ sn, sn = ns[i] := ⟨_, rfl⟩
                      have hgd : ns.getD i ⟨#[]⟩ = sn := by rw [hsn]; simp [List.getD, hil]
                      have n0 := HNe.out i hil
                      rw [← hsn] at n0
                      have u0 := HUe.out i hil
                      rw [hgd] at u0
                      obtain ⟨c, hc⟩ : ∃ c, c = cn (hitW row k f sn) k := ⟨_, rfl⟩
                      rw [← hc] at u0
                      have hbud : budL sn row = (c : Int) := by rw [hc]; exact (HWn.out sn f).symm
                      have hcle : c ≤ k := by rw [hc]; exact cn_le _ _
                      obtain ⟨r, hpr, hord⟩ := part_some (b := (c : Int)) (m := (k : Int)) (by omega) (by omega) (by omega) (by omega) (by omega)
                      have hrl := HTR.out.len
                      have HN0 := hide n0
                      have HU0 := hide u0
                      have HBu : Hid (∀ W, Below we.heap.size we W → Calls Try.prog 19 #[.slice (some ⟨gs, 0, none⟩) row.length ks, .string sn] W fun e w' => e = .returned (.int .i64 c) ∧ Below we.heap.size we w' ∧ w'.cell? ⟨g, i, none⟩ = some (.string sn) ∧ w'.cell? ⟨gc, i, none⟩ = some (.int .i64 c)) := hide (fun W hW => by
                        have h := budget_any (some ⟨gs, 0, none⟩) ks row sn W (by omega) ((HSe.out).below hW) HTR.out.ok
                        rw [hbud] at h
                        refine h.mono ?_
                        rintro e w' ⟨rfl, hb⟩
                        have hb' := hW.trans (hb.mono hW.size)
                        exact ⟨rfl, hb', (hb'.cell (p := ⟨g, i, none⟩) hge).trans HN0.out, (hb'.cell (p := ⟨gc, i, none⟩) hce).trans HU0.out⟩)
                      have HSh : Hid (∀ W, Below we.heap.size we W → Calls Try.prog 21 #[.slice (some ⟨gs, 0, none⟩) row.length ks, .string sn] W fun e w' => e = .returned (.float .f64 r) ∧ Below we.heap.size we w' ∧ w'.cell? ⟨g, i, none⟩ = some (.string sn) ∧ w'.cell? ⟨gc, i, none⟩ = some (.int .i64 c)) := hide (fun W hW => by
                        have h := share_any (some ⟨gs, 0, none⟩) ks row sn W (by omega) ((HSe.out).below hW) HTR.out.ok r (fun e => by omega) (fun _ => by rw [hbud, hrl]; exact hpr)
                        refine h.mono ?_
                        rintro e w' ⟨rfl, hb⟩
                        have hb' := hW.trans (hb.mono hW.size)
                        exact ⟨rfl, hb', (hb'.cell (p := ⟨g, i, none⟩) hge).trans HN0.out, (hb'.cell (p := ⟨gc, i, none⟩) hce).trans HU0.out⟩)
                      have cv1 : ∀ (w : World), (convert 3 40 (.int .i64 (c : Int))).run Try.prog w = .ok (.float .f64 (floatOfInt .f64 (c : Int))) w := fun w => run_convert_int_float w 3 40 .i64 .f64 _ (by kernel_rfl) (by kernel_rfl)
                      have cv2 : ∀ (w : World), (convert 26 40 (.int .u64 (k : Int))).run Try.prog w = .ok (.float .f64 (floatOfInt .f64 (k : Int))) w := fun w => run_convert_int_float w 26 40 .u64 .f64 _ (by kernel_rfl) (by kernel_rfl)
                      have cq : ∀ w : World, (binOp .quo 40 (.float .f64 (floatOfInt .f64 (c : Int))) (.float .f64 (floatOfInt .f64 (k : Int)))).run Try.prog w = .ok (.float .f64 r) w := fun w => run_float_arith w .quo 40 .f64 _ _ r hpr
                      have heq2 : FloatKind.f64.format.order r r = some Ordering.eq := hord
                      have heq : (FloatKind.f64.format.order r r == some Ordering.eq) = true := by rw [heq2]; rfl
                      have hgn : ((c : Int) != (c : Int)) = false := by simp
                      have hZ := HZ.out
                      have nc : wr.cell? ⟨g, i, none⟩ = some (.string sn) := (hZ.cell (p := ⟨g, i, none⟩) hge).trans n0
                      have uc : wr.cell? ⟨gc, i, none⟩ = some (.int .i64 c) := (hZ.cell (p := ⟨gc, i, none⟩) hce).trans u0
                      have hZd : Below we.heap.size we wr.drew := hZ.drew
                      have ncd : wr.drew.cell? ⟨g, i, none⟩ = some (.string sn) := nc
                      have ucd : wr.drew.cell? ⟨gc, i, none⟩ = some (.int .i64 c) := uc
                      clear hsn hgd hc hbud hrl hpr hord n0 u0
                      go_wp2_with fail
                      go_region_held3 (fun W => Below we.heap.size we W ∧ W.cell? ⟨g, i, none⟩ = some (.string sn) ∧ W.cell? ⟨gc, i, none⟩ = some (.int .i64 (c : Int))) (first | exact ⟨hZd, ncd, ucd⟩ | exact ⟨hZ, nc, uc⟩ | exact ⟨by assumption, by assumption, by assumption⟩ | (simp [*])) (first | (go_at_call 19; refine (HBu.out _ (by assumption)).mono ?_; rintro e w' ⟨rfl, h1, h2, h3⟩) | (go_at_call 21; refine (HSh.out _ (by assumption)).mono ?_; rintro e w' ⟨rfl, h1, h2, h3⟩))
                      go_wp2_with fail
                      go_roundw
                      case rel => exact ⟨i + 1, by go_num, by omega, hide (by assumption)⟩
                      case measure => simp [intOf]; omega
                    · go_wp2_with fail
                      refine (HK.out _).mono ?_
                      rintro e w9 ⟨rfl, hb9⟩
                      have HB9 : Hid (Below w.heap.size w w9) := hide ((HBe.out.trans (HZ.out.mono HBe.out.size)).trans (hb9.mono (by have := (HBe.out.trans (HZ.out.mono HBe.out.size)).size; omega)))
                      clear hb9
                      go_wp2_with fail
                      go_ret
                      exact ⟨rfl, HB9.out⟩
            · skip
              go_wp2_with (at_make; refine wpList_make_full _ rfl _ _ 54 rfl wr.heap.size 3 i0 (.int .i64 0) 1 und54 Hi.out Hz0.out Hz1.out .i64 .i64 _ _ ns.length rfl rfl rfl rfl (by rw [Hz2.out]; omega) (by unfold maxLen; omega) (by omega) ?_; intro w10 hown10 hgrow10; have HU10 := hide (NAt.make hown10).2; have HL10 := hide ((Below.refl wr.heap.size wr).grown hgrow10 (Nat.le_refl _) (by simp)); clear hown10 hgrow10)
              clear c3 hx HS0 HL0 HBw Rw HRw
              generalize hwn : wr = wn at *
              clear hwn
              have HSn : Hid (∀ i (h : i < ns.length), wn.cell? ⟨g, i, none⟩ = some (.string ns[i])) := hide HS.out.cellAt
              have HSlw := hide (HSl.out.below HL.out)
              obtain ⟨hg1, hg2⟩ := hgl
              generalize hgc : wn.heap.size = gc at *
              have Hgc := hide hgc
              clear hgc
              go_loopw [13] (fun v13 wr => ∃ (k : Nat), v13 = .int .i64 ((f + k : Nat) : Int) ∧ k ≤ M ∧ Hid (NAt wr gc ns.length (fun j => cn (hitW row M f (ns.getD j ⟨#[]⟩)) k)) ∧ Hid (Below gc wn wr)) (fun v _ => f + M - (intOf v).toNat)
              case atStart => exact ⟨0, rfl, Nat.zero_le _, HU10, HL10⟩
              case round =>
                clear HU10 HL10
                obtain ⟨k, rfl, hk, HU, HLq⟩ := hrel
                have HSq := hide (HSlw.out.below (by rw [Hgc.out]; exact HLq.out))
                by_cases hkM : k < M
                · have htst : decide (((f + k : Nat) : Int) < (f : Int) + (M : Int)) = true := by simp; omega
                  go_wp2_with fail
                  refine (HSc.out wr f k HSq.out).mono ?_
                  rintro e w11 ⟨rfl, hb11⟩
                  obtain ⟨who, hwho⟩ : ∃ who, who = (findAt (((f + k) % M : Nat) : Int) row).1 := ⟨_, rfl⟩
                  obtain ⟨more, hmore⟩ : ∃ more, more = (findAt (((f + k) % M : Nat) : Int) row).2 := ⟨_, rfl⟩
                  rw [← hwho, ← hmore]
                  have Hwho := hide hwho
                  have hul := HU.out.lt
                  have HU1 : Hid (NAt w11 gc ns.length (cnI row M f ns k 0)) := hide (by
                    obtain ⟨cur, q1, q2, q3⟩ := HU.out
                    exact ⟨cur, (hb11.block _ hul).trans q1, q2, fun i h => by rw [q3 i h, cnI_zero]⟩)
                  have HL1 : Hid (Below gc wn w11) := hide (HLq.out.trans (hb11.mono (by have := HLq.out.size; omega)))
                  clear hwho hmore hb11 htst
                  go_wp2_with fail
                  go_loopw [16] (fun v16 wr => ∃ (i : Nat), v16 = .int .i64 i ∧ i ≤ ns.length ∧ Hid (NAt wr gc ns.length (cnI row M f ns k i)) ∧ Hid (Below gc wn wr)) (fun v _ => ns.length - (intOf v).toNat)
                  case atStart => exact ⟨0, rfl, Nat.zero_le _, HU1, HL1⟩
                  case round =>
                    clear HU HLq HSq HU1 HL1 hul
                    obtain ⟨i, rfl, hi', HU, HLq⟩ := hrel
                    by_cases hil : i < ns.length
                    · have nc := (HLq.out.cell (p := ⟨g, i, none⟩) hg2).trans (HSn.out i hil)
                      obtain ⟨sn, hsn⟩ : ∃ sn, sn = ns[i] := ⟨_, rfl⟩
                      rw [← hsn] at nc
                      have hgd : ns.getD i ⟨#[]⟩ = sn := by rw [hsn]; simp [List.getD, hil]
                      have Hgd := hide hgd
                      clear hsn hgd
                      by_cases hh : sn.toList == who.toList
                      · have hh' : (sn.toList == who.toList) = true := hh
                        have Hhit : Hid (hitW row M f (ns.getD i ⟨#[]⟩) k = true) := hide (by unfold hitW; rw [Hgd.out, ← Hwho.out]; exact hh)
                        have uc := HU.out.cell i hil
                        have uf := HU.out.frozen i
                        have hcl := cnI_le (row := row) (M := M) (f := f) (ns := ns) (k := k) (i := i) (j := i)
                        obtain ⟨r, hr⟩ : ∃ r, r = cnI row M f ns k i i := ⟨_, rfl⟩
                        rw [← hr] at uc hcl
                        have HU2 : Hid (NAt (wr.setCell ⟨gc, i, none⟩ (.int .i64 ((r : Int) + 1))) gc ns.length (cnI row M f ns k (i + 1))) := hide (HU.out.set i _ hil (by rw [cnI_hit Hhit.out, ← hr]; rfl) (fun j _ e => cnI_other e))
                        clear hh hr
                        go_wp2_with fail
                        go_roundw
                        case rel => exact ⟨i + 1, by go_num, by omega, HU2, hide (HLq.out.setCell (Nat.le_refl _) _)⟩
                        case measure => simp [intOf]; omega
                      · have hh' : (sn.toList == who.toList) = false := by simpa using hh
                        have Hhit : Hid (hitW row M f (ns.getD i ⟨#[]⟩) k = false) := hide (by unfold hitW; rw [Hgd.out, ← Hwho.out]; exact hh')
                        clear hh
                        go_wp2_with fail
                        go_roundw
                        case rel => exact ⟨i + 1, by go_num, by omega, hide (HU.out.cong (fun j _ => cnI_miss Hhit.out j)), HLq⟩
                        case measure => simp [intOf]; omega
                    · obtain rfl : i = ns.length := by omega
                      go_wp2_with fail
                      go_roundw
                      case rel => exact ⟨k + 1, by go_num, by omega, hide (HU.out.cong (fun j hj => (cnI_end hj).symm)), HLq⟩
                      case measure => simp [intOf]; omega
                · obtain rfl : k = M := by omega
                  have htst : decide (((f + k : Nat) : Int) < (f : Int) + (k : Int)) = false := by simp
                  have HUe : Hid (∀ i (h : i < ns.length), wr.cell? ⟨gc, i, none⟩ = some (.int .i64 (cn (hitW row k f (ns.getD i ⟨#[]⟩)) k : Nat))) := hide (fun i h => HU.out.cell i h)
                  have HNe : Hid (∀ i (h : i < ns.length), wr.cell? ⟨g, i, none⟩ = some (.string ns[i])) := hide (fun i h => (HLq.out.cell (p := ⟨g, i, none⟩) hg2).trans (HSn.out i h))
                  have HSe := hide (HSlw.out.below (by rw [Hgc.out]; exact HLq.out))
                  have HBe : Hid (Below w.heap.size w wr) := hide (HB8.out.trans ((HL.out.mono (by omega)).trans (HLq.out.mono (by omega))))
                  have hge : g < wr.heap.size := by have h1 := HLq.out.size; have h2 := Hgc.out; omega
                  have hce : gc < wr.heap.size := HU.out.lt
                  clear HU HLq htst
                  go_wp2_with fail
                  generalize hwe : wr = we at *
                  clear hwe
                  rw [show ((f + k : Nat) : Int) = (f : Int) + (k : Int) from by simp]
                  go_loopw [17] (fun v17 wr => ∃ (i : Nat), v17 = .int .i64 i ∧ i ≤ ns.length ∧ Hid (Below we.heap.size we wr)) (fun v _ => ns.length - (intOf v).toNat)
                  case atStart => exact ⟨0, rfl, Nat.zero_le _, hide (Below.refl _ _)⟩
                  case round =>
                    obtain ⟨i, rfl, hi', HZ⟩ := hrel
                    by_cases hil : i < ns.length
                    · obtain ⟨sn, hsn⟩ : ∃ sn, sn = ns[i] := ⟨_, rfl⟩
                      have hgd : ns.getD i ⟨#[]⟩ = sn := by rw [hsn]; simp [List.getD, hil]
                      have n0 := HNe.out i hil
                      rw [← hsn] at n0
                      have u0 := HUe.out i hil
                      rw [hgd] at u0
                      obtain ⟨c, hc⟩ : ∃ c, c = cn (hitW row k f sn) k := ⟨_, rfl⟩
                      rw [← hc] at u0
                      have hbud : budL sn row = (c : Int) := by rw [hc]; exact (HWn.out sn f).symm
                      have hcle : c ≤ k := by rw [hc]; exact cn_le _ _
                      obtain ⟨r, hpr, hord⟩ := part_some (b := (c : Int)) (m := (k : Int)) (by omega) (by omega) (by omega) (by omega) (by omega)
                      have hrl := HTR.out.len
                      have HN0 := hide n0
                      have HU0 := hide u0
                      have HBu : Hid (∀ W, Below we.heap.size we W → Calls Try.prog 19 #[.slice (some ⟨gs, 0, none⟩) row.length ks, .string sn] W fun e w' => e = .returned (.int .i64 c) ∧ Below we.heap.size we w' ∧ w'.cell? ⟨g, i, none⟩ = some (.string sn) ∧ w'.cell? ⟨gc, i, none⟩ = some (.int .i64 c)) := hide (fun W hW => by
                        have h := budget_any (some ⟨gs, 0, none⟩) ks row sn W (by omega) ((HSe.out).below hW) HTR.out.ok
                        rw [hbud] at h
                        refine h.mono ?_
                        rintro e w' ⟨rfl, hb⟩
                        have hb' := hW.trans (hb.mono hW.size)
                        exact ⟨rfl, hb', (hb'.cell (p := ⟨g, i, none⟩) hge).trans HN0.out, (hb'.cell (p := ⟨gc, i, none⟩) hce).trans HU0.out⟩)
                      have HSh : Hid (∀ W, Below we.heap.size we W → Calls Try.prog 21 #[.slice (some ⟨gs, 0, none⟩) row.length ks, .string sn] W fun e w' => e = .returned (.float .f64 r) ∧ Below we.heap.size we w' ∧ w'.cell? ⟨g, i, none⟩ = some (.string sn) ∧ w'.cell? ⟨gc, i, none⟩ = some (.int .i64 c)) := hide (fun W hW => by
                        have h := share_any (some ⟨gs, 0, none⟩) ks row sn W (by omega) ((HSe.out).below hW) HTR.out.ok r (fun e => by omega) (fun _ => by rw [hbud, hrl]; exact hpr)
                        refine h.mono ?_
                        rintro e w' ⟨rfl, hb⟩
                        have hb' := hW.trans (hb.mono hW.size)
                        exact ⟨rfl, hb', (hb'.cell (p := ⟨g, i, none⟩) hge).trans HN0.out, (hb'.cell (p := ⟨gc, i, none⟩) hce).trans HU0.out⟩)
                      have cv1 : ∀ (w : World), (convert 3 40 (.int .i64 (c : Int))).run Try.prog w = .ok (.float .f64 (floatOfInt .f64 (c : Int))) w := fun w => run_convert_int_float w 3 40 .i64 .f64 _ (by kernel_rfl) (by kernel_rfl)
                      have cv2 : ∀ (w : World), (convert 26 40 (.int .u64 (k : Int))).run Try.prog w = .ok (.float .f64 (floatOfInt .f64 (k : Int))) w := fun w => run_convert_int_float w 26 40 .u64 .f64 _ (by kernel_rfl) (by kernel_rfl)
                      have cq : ∀ w : World, (binOp .quo 40 (.float .f64 (floatOfInt .f64 (c : Int))) (.float .f64 (floatOfInt .f64 (k : Int)))).run Try.prog w = .ok (.float .f64 r) w := fun w => run_float_arith w .quo 40 .f64 _ _ r hpr
                      have heq2 : FloatKind.f64.format.order r r = some Ordering.eq := hord
                      have heq : (FloatKind.f64.format.order r r == some Ordering.eq) = true := by rw [heq2]; rfl
                      have hgn : ((c : Int) != (c : Int)) = false := by simp
                      have hZ := HZ.out
                      have nc : wr.cell? ⟨g, i, none⟩ = some (.string sn) := (hZ.cell (p := ⟨g, i, none⟩) hge).trans n0
                      have uc : wr.cell? ⟨gc, i, none⟩ = some (.int .i64 c) := (hZ.cell (p := ⟨gc, i, none⟩) hce).trans u0
                      have hZd : Below we.heap.size we wr.drew := hZ.drew
                      have ncd : wr.drew.cell? ⟨g, i, none⟩ = some (.string sn) := nc
                      have ucd : wr.drew.cell? ⟨gc, i, none⟩ = some (.int .i64 c) := uc
                      clear hsn hgd hc hbud hrl hpr hord n0 u0
                      go_wp2_with fail
                      go_region_held3 (fun W => Below we.heap.size we W ∧ W.cell? ⟨g, i, none⟩ = some (.string sn) ∧ W.cell? ⟨gc, i, none⟩ = some (.int .i64 (c : Int))) (first | exact ⟨hZd, ncd, ucd⟩ | exact ⟨hZ, nc, uc⟩ | exact ⟨by assumption, by assumption, by assumption⟩ | (simp [*])) (first | (go_at_call 19; refine (HBu.out _ (by assumption)).mono ?_; rintro e w' ⟨rfl, h1, h2, h3⟩) | (go_at_call 21; refine (HSh.out _ (by assumption)).mono ?_; rintro e w' ⟨rfl, h1, h2, h3⟩))
                      go_wp2_with fail
                      go_roundw
                      case rel => exact ⟨i + 1, by go_num, by omega, hide (by assumption)⟩
                      case measure => simp [intOf]; omega
                    · go_wp2_with fail
                      refine (HK.out _).mono ?_
                      rintro e w9 ⟨rfl, hb9⟩
                      have HB9 : Hid (Below w.heap.size w w9) := hide ((HBe.out.trans (HZ.out.mono HBe.out.size)).trans (hb9.mono (by have := (HBe.out.trans (HZ.out.mono HBe.out.size)).size; omega)))
                      clear hb9
                      go_wp2_with fail
                      go_ret
                      exact ⟨rfl, HB9.out⟩
end LA
end Go.Proofs.Ytenfikfgliljmaa
