import Derived.Test.YtenfikfgliljmaaB6
namespace Go.Proofs.Ytenfikfgliljmaa
open Go.RowKit
namespace LA
/-- What the runs want together; false: one of them is wrong by itself. -/
def demGo (major : Int) (needs : Bool) : List Need → Int → Int × Bool
  | [], s => (s, true)
  | x :: r, s => if wrongC major x needs ≠ 0 then (0, false) else demGo major needs r (s + wantsC major x needs)
def demL (major : Int) (xs : List Need) (needs : Bool) : Int × Bool := if major < 1 ∨ 65536 < major then (0, false) else demGo major needs xs 0

def DemPost (major : Int) (xs : List Need) (needs : Bool) (w : World) (e : Ending) (w' : World) : Prop :=
  e = .returned (.tuple #[.int .u64 (demL major xs needs).1, .bool (demL major xs needs).2]) ∧ Below w.heap.size w w'
theorem DemPost.mk {major : Int} {xs : List Need} {needs : Bool} {w : World} {e : Ending} {w' : World} {r : Int × Bool} (h : demL major xs needs = r) (he : e = .returned (.tuple #[.int .u64 r.1, .bool r.2])) (hb : Below w.heap.size w w') : DemPost major xs needs w e w' := by
  subst h; exact ⟨he, hb⟩

set_option maxHeartbeats 1600000 in
set_option maxRecDepth 100000 in
theorem demand_any (major lp lc : Int) (needs : Bool) (A : Option Addr) (cap0 : Nat) (xs : List Need) (w : World) (hm0 : 0 ≤ major) (hm1 : major ≤ 18446744073709551615) (hx : xs.length ≤ 2147483648) (hr : RunsAt w A xs) (hok : ∀ x, x ∈ xs → x.ok) :
    Calls Try.prog 40 #[.int .u64 major, laneV lp lc needs A xs.length cap0] w (DemPost major xs needs w) := by
  by_cases hlow : major < 1
  · have H1 := hide (show demL major xs needs = (0, false) from by unfold demL; rw [if_pos (.inl hlow)])
    go_enter Try.func40, Try.ntmps40
    go_wp2_with fail
    go_ret2
    exact DemPost.mk H1.out rfl ((Below.refl _ _).alloc (Nat.le_refl _) _)
  by_cases hhigh : 65536 < major
  · have H1 := hide (show demL major xs needs = (0, false) from by unfold demL; rw [if_pos (.inr hhigh)])
    go_enter Try.func40, Try.ntmps40
    go_wp2_with fail
    go_ret2
    exact DemPost.mk H1.out rfl ((Below.refl _ _).alloc (Nat.le_refl _) _)
  have HF := hide (show demL major xs needs = demGo major needs xs 0 from by unfold demL; rw [if_neg (by omega)])
  have HR := hide hr
  have HO := hide hok
  clear hr hok
  have hN : ∀ W, Below (w.heap.size + 1) (w.alloc (.cells #[.int .i64 lp, .int .u64 lc, .bool needs, .slice A xs.length cap0] 31)) W → Below w.heap.size w W ∧ W.cell? ⟨w.heap.size, 2, none⟩ = some (.bool needs) ∧ W.cell? ⟨w.heap.size, 3, none⟩ = some (.slice A xs.length cap0) := fun W hW => by
    have r0 := Row.alloc_new w #[.int .i64 lp, .int .u64 lc, .bool needs, .slice A xs.length cap0] 31
    refine ⟨((Below.refl _ w).alloc (Nat.le_refl _) _).trans (hW.mono (by omega)), ?_, ?_⟩
    · rw [hW.cell (p := ⟨w.heap.size, 2, none⟩) (by simp)]; exact r0.cell rfl
    · rw [hW.cell (p := ⟨w.heap.size, 3, none⟩) (by simp)]; exact r0.cell rfl
  have HN := hide hN
  clear hN
  go_enter Try.func40, Try.ntmps40
  go_wp2_with fail
  have HB0 := hide (Below.refl (w.heap.size + 1) (w.alloc (.cells #[.int .i64 lp, .int .u64 lc, .bool needs, .slice A xs.length cap0] 31)))
  generalize hW1 : w.alloc (.cells #[.int .i64 lp, .int .u64 lc, .bool needs, .slice A xs.length cap0] 31) = W1 at HN HB0 ⊢
  have hs1 : W1.heap.size = w.heap.size + 1 := by rw [← hW1]; simp
  have Hs1 := hide hs1
  clear hW1 hs1
  generalize hn : w.heap.size = N at *
  have Hn := hide hn
  clear hn
  go_loopw [6, 18] (fun v7 v24 wr => ∃ (k : Nat) (s : Int), v7 = .int .u64 s ∧ v24 = .int .i64 k ∧ k ≤ xs.length ∧ 0 ≤ s ∧ s ≤ 4294967296 * k ∧ Hid (demGo major needs (xs.drop k) s = demGo major needs xs 0) ∧ Hid (Below (N + 1) W1 wr)) (fun _ v _ => xs.length - (intOf v).toNat)
  case atStart => exact ⟨0, 0, rfl, rfl, Nat.zero_le _, by omega, by omega, hide rfl, HB0⟩
  case round =>
    obtain ⟨k, s, rfl, rfl, hk, hs0, hs1, HC, HB⟩ := hrel
    by_cases hlt : k < xs.length
    · obtain ⟨b, off, hA, n0, n1, n2, n3⟩ := HR.out k hlt
      subst hA
      obtain ⟨x, hx⟩ : ∃ x, x = xs[k] := ⟨_, rfl⟩
      rw [← hx] at n0 n1 n2 n3
      have hdr : xs.drop k = x :: xs.drop (k + 1) := by rw [hx]; exact List.drop_eq_getElem_cons hlt
      have hbl := (HN.out wr HB.out).1
      have hbb : b < w.heap.size := World.block_lt_of_cell? w _ n0
      rw [← Hn.out] at hbl
      replace n0 := (hbl.cell (p := ⟨b, off + k * 4, none⟩) hbb).trans n0
      replace n1 := (hbl.cell (p := ⟨b, off + k * 4 + 1, none⟩) hbb).trans n1
      replace n2 := (hbl.cell (p := ⟨b, off + k * 4 + 2, none⟩) hbb).trans n2
      replace n3 := (hbl.cell (p := ⟨b, off + k * 4 + 3, none⟩) hbb).trans n3
      have hxo : x.ok := HO.out x (hx ▸ List.getElem_mem hlt)
      have cN := (HN.out wr HB.out).2.1
      have lN : N < wr.heap.size := World.block_lt_of_cell? wr _ cN
      have hcheck := HC.out
      rw [hdr] at hcheck
      have Hchk := hide hcheck
      obtain ⟨r, hwr⟩ : ∃ r, r = wrongC major x needs := ⟨_, rfl⟩
      have Hri : Hid (∀ W, Calls Try.prog 35 #[.int .u64 major, .agg #[.int .i64 x.pos, .string x.subj, .int .u64 x.budget, .int .u64 x.period], .bool needs] W fun e w' =>
          e = .returned (.int .i64 r) ∧ Below W.heap.size W w') := hide (fun W => by rw [hwr]; exact right_any major x needs W (by omega) (by omega) hxo)
      have r2 := Row.alloc_new wr #[.int .i64 x.pos, .string x.subj, .int .u64 x.budget, .int .u64 x.period] 28
      have HR2 := hide r2
      have Hxo := hide hxo
      have Hx := hide hx
      clear hbl hbb hdr hcheck hxo hx r2
      by_cases hw0 : r = 0
      · subst hw0
        have hri := right_in Hxo.out hwr.symm
        obtain ⟨q, hq⟩ : ∃ q, q = wantsC major x needs := ⟨_, rfl⟩
        have hq1 : q ≤ 4294967296 := by rw [hq]; exact wants_le (by omega) hri
        have hq0 : 1 ≤ q := by rw [hq]; exact wants_pos hri
        have Hwi : Hid (∀ W, Calls Try.prog 36 #[.int .u64 major, .agg #[.int .i64 x.pos, .string x.subj, .int .u64 x.budget, .int .u64 x.period], .bool needs] W fun e w' =>
            e = .returned (.int .u64 q) ∧ Below W.heap.size W w') := hide (fun W => by rw [hq]; exact wants_any major x needs W (by omega) (by omega) Hxo.out hri)
        have Hwr := hide hwr
        have Hq := hide hq
        clear hwr hq hri
        go_wp2_with fail
        refine (Hri.out _).mono ?_
        rintro e w2 ⟨rfl, hb2⟩
        have m0 : w2.cell? ⟨wr.heap.size, 0, none⟩ = some (.int .i64 x.pos) := (hb2.cell (p := ⟨wr.heap.size, 0, none⟩) (by simp)).trans (HR2.out.cell rfl)
        have m1 : w2.cell? ⟨wr.heap.size, 1, none⟩ = some (.string x.subj) := (hb2.cell (p := ⟨wr.heap.size, 1, none⟩) (by simp)).trans (HR2.out.cell rfl)
        have m2 : w2.cell? ⟨wr.heap.size, 2, none⟩ = some (.int .u64 x.budget) := (hb2.cell (p := ⟨wr.heap.size, 2, none⟩) (by simp)).trans (HR2.out.cell rfl)
        have m3 : w2.cell? ⟨wr.heap.size, 3, none⟩ = some (.int .u64 x.period) := (hb2.cell (p := ⟨wr.heap.size, 3, none⟩) (by simp)).trans (HR2.out.cell rfl)
        have HB2 : Hid (Below (N + 1) W1 w2) := hide ((HB.out.trans ((Below.refl _ wr).alloc (by omega) _)).trans (hb2.mono (by simp; omega)))
        have cN2 := (HN.out w2 HB2.out).2.1
        clear hb2 cN lN n0 n1 n2 n3
        go_wp2_with fail
        refine (Hwi.out _).mono ?_
        rintro e w3 ⟨rfl, hb3⟩
        have HB3 : Hid (Below (N + 1) W1 w3) := hide (HB2.out.trans (hb3.mono (by have := HB2.out.size; rw [Hs1.out] at this; omega)))
        clear hb3 m0 m1 m2 m3 cN2
        go_wp2_with fail
        go_roundw
        case rel =>
          refine ⟨k + 1, s + q, rfl, by go_num, by omega, by omega, by omega, hide ?_, HB3⟩
          rw [← Hchk.out, demGo, if_neg (by rw [← Hwr.out]; simp), ← Hq.out]
        case measure => simp [intOf]; omega
      · have hne : (r == 0) = false := beq_eq_false_iff_ne.2 hw0
        have Hwr := hide hwr
        clear hwr
        go_wp2_with fail
        refine (Hri.out _).mono ?_
        rintro e w2 ⟨rfl, hb2⟩
        have HB2 : Hid (Below (N + 1) W1 w2) := hide ((HB.out.trans ((Below.refl _ wr).alloc (by omega) _)).trans (hb2.mono (by simp; omega)))
        clear hb2
        go_wp2_with fail
        go_ret2
        refine DemPost.mk (r := (0, false)) ?_ rfl (by rw [Hn.out]; exact (HN.out w2 HB2.out).1)
        rw [HF.out, ← Hchk.out, demGo, if_pos (by rw [← Hwr.out]; exact hw0)]
    · obtain rfl : k = xs.length := by omega
      go_wp2_with fail
      go_ret2
      refine DemPost.mk (r := (s, true)) ?_ rfl (by rw [Hn.out]; exact (HN.out wr HB.out).1)
      have := HC.out
      rw [List.drop_length, demGo] at this
      rw [HF.out, ← this]
end LA
end Go.Proofs.Ytenfikfgliljmaa
