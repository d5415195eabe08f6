/- bulkheadbook's Stays. -/
import Derived.Test.YtenfikfgliljmaaKX
namespace Go.Proofs.Ytenfikfgliljmaa
open Go.RowKit
namespace LA
/-- What Stays and Apart leave: of the book's blocks alone something may have turned. -/
def StaysPost (p : Nat) (lv wv : Value) (h : Int) (E : List Ent) (F : Nat → Prop) (w : World) (e : Ending) (w' : World) : Prop :=
  e = .returned (.bool true) ∧ BkAt w' p lv wv h E F ∧ Upd F w w'
set_option maxHeartbeats 3200000 in
set_option maxRecDepth 100000 in
theorem stays_any (p : Nat) (lv wv : Value) (h : Int) (E : List Ent) (F : Nat → Prop) (w : World) (k : BkAt w p lv wv h E F) (hE : E.length ≤ 1000) :
    Calls Try.prog 53 #[.pointer (some ⟨p, 0, none⟩)] w (StaysPost p lv wv h E F w) := by
  obtain ⟨Al, cl, rfl⟩ := k.ls.len
  obtain ⟨Aw, cw, rfl⟩ := k.ws.len
  simp only [List.length_map] at k ⊢
  have K0 := hide k
  clear k
  go_enter Try.func53, Try.ntmps53
  go_wp2_with fail
  go_loopw [3] (fun v3 wr => ∃ i : Nat, v3 = .int .i64 i ∧ i ≤ E.length ∧ Hid (BkAt wr p (.slice Al E.length cl) (.slice Aw E.length cw) h E F) ∧ Hid (Upd F w wr)) (fun v _ => E.length - (intOf v).toNat)
  case atStart => exact ⟨0, rfl, Nat.zero_le _, K0, hide (Upd.refl F w)⟩
  case round =>
    obtain ⟨i, rfl, hi', KB, HUr⟩ := hrel
    have d0 := KB.out.box.cell (o := 0) rfl
    have d1 := KB.out.box.cell (o := 1) rfl
    have d3 := KB.out.box.cell (o := 3) rfl
    by_cases hi : i < E.length
    · obtain ⟨gl, kl, cl', hl⟩ := KB.out.ls.form (by simp; omega)
      obtain ⟨gw, kw, cw', hw⟩ := KB.out.ws.form (by simp; omega)
      obtain ⟨rfl, rfl⟩ : Al = some ⟨gl, kl, none⟩ ∧ cl = cl' := by simpa using hl
      obtain ⟨rfl, rfl⟩ : Aw = some ⟨gw, kw, none⟩ ∧ cw = cw' := by simpa using hw
      obtain ⟨e, he⟩ : ∃ e, e = E[i] := ⟨_, rfl⟩
      obtain ⟨a1, a2, _, _⟩ := KB.out.ent e (he ▸ List.getElem_mem hi)
      obtain ⟨Av, cv, hev, hav⟩ := sval_at a1
      obtain ⟨Au, cu, heu, hau⟩ := sval_at a2
      have HAv := hide hav
      have HAu := hide hau
      have x0 := KB.out.ls.cell i (by simp; omega)
      have x1 := KB.out.ws.cell i (by simp; omega)
      simp only [List.getElem_map, ← he, hev, heu] at x0 x1
      have hyy : e.ys.length ≤ 4398046511104 := by have := KB.out.len e (he ▸ List.getElem_mem hi); omega
      have lnep : gl ≠ p ∧ gw ≠ p := ⟨(KB.out.fl gl rfl).2.1, (KB.out.fw gw rfl).2⟩
      have s0 : wr.drew.cell? ⟨p, 0, none⟩ = some (.slice (some ⟨gl, kl, none⟩) E.length cl) := d0
      have s1 : wr.drew.cell? ⟨p, 1, none⟩ = some (.slice (some ⟨gw, kw, none⟩) E.length cw) := d1
      have s2 : wr.drew.cell? ⟨gl, kl + i, none⟩ = some (.slice Av e.ys.length cv) := x0
      have s3 : wr.drew.cell? ⟨gw, kw + i, none⟩ = some (.slice Au e.ys.length cu) := x1
      have s4 : wr.drew.cell? ⟨p, 3, none⟩ = some (.bool false) := d3
      have lp := KB.out.box.lt
      have lgl := World.block_lt_of_cell? wr _ x0
      have lgw := World.block_lt_of_cell? wr _ x1
      have hi0 : (0 : Int) ≤ (i : Int) := by omega
      have hi1 : (i : Int) < (E.length : Int) := by omega
      have He := hide he
      clear hev heu hav hau a1 a2 he hl hw
      go_wp2_with fail
      go_region_held3 (fun W => W.cell? ⟨p, 0, none⟩ = some (.slice (some ⟨gl, kl, none⟩) E.length cl) ∧ W.cell? ⟨p, 1, none⟩ = some (.slice (some ⟨gw, kw, none⟩) E.length cw) ∧ W.cell? ⟨gl, kl + i, none⟩ = some (.slice Av e.ys.length cv) ∧ W.cell? ⟨gw, kw + i, none⟩ = some (.slice Au e.ys.length cu) ∧ W.cell? ⟨p, 3, none⟩ = some (.bool false))
        (first | exact ⟨s0, s1, s2, s3, s4⟩ | exact ⟨t0, t1, t2, t3, t4⟩ | exact ⟨u0, u1, u2, u3, u4⟩)
        (first | (go_at_call 31; refine (Slsame Av Au cv cu e.ys wr.drew hyy HAv.out HAu.out).mono ?_; rintro e7 w7 ⟨rfl, hb7⟩
                  have t0 : w7.cell? ⟨p, 0, none⟩ = some (.slice (some ⟨gl, kl, none⟩) E.length cl) := (hb7.cell (p := ⟨p, 0, none⟩) lp).trans s0
                  have t1 : w7.cell? ⟨p, 1, none⟩ = some (.slice (some ⟨gw, kw, none⟩) E.length cw) := (hb7.cell (p := ⟨p, 1, none⟩) lp).trans s1
                  have t2 : w7.cell? ⟨gl, kl + i, none⟩ = some (.slice Av e.ys.length cv) := (hb7.cell (p := ⟨gl, kl + i, none⟩) lgl).trans s2
                  have t3 : w7.cell? ⟨gw, kw + i, none⟩ = some (.slice Au e.ys.length cu) := (hb7.cell (p := ⟨gw, kw + i, none⟩) lgw).trans s3
                  have t4 : w7.cell? ⟨p, 3, none⟩ = some (.bool false) := (hb7.cell (p := ⟨p, 3, none⟩) lp).trans s4
                  have hu7 : Upd (fun _ => False) wr w7 := (Upd.drew wr).trans (Upd.of_below hb7 (S := fun _ => False) (fun b q1 q2 => by omega)) (fun _ q => q.elim)
                  have K7 := hide (KB.out.upd hu7 (fun _ q => q.elim))
                  have HU7 := hide (HUr.out.trans hu7 (fun _ q => q.elim))
                  have t5 := K7.out.box.frozen 3
                  have r8 : Row (w7.setCell ⟨p, 3, none⟩ (.bool false)) p 62 #[.slice (some ⟨gl, kl, none⟩) E.length cl, .slice (some ⟨gw, kw, none⟩) E.length cw, .int .i64 h, .bool false] := by
                    have := K7.out.box.setCell 3 (.bool false)
                    simpa using this
                  have K8 := hide (K7.out.held (Upd.setCell w7 ⟨p, 3, none⟩ (.bool false) (S := (· = p)) rfl) r8)
                  have u0 := r8.cell (o := 0) rfl
                  have u1 := r8.cell (o := 1) rfl
                  have u4 := r8.cell (o := 3) rfl
                  have u2 : (w7.setCell ⟨p, 3, none⟩ (.bool false)).cell? ⟨gl, kl + i, none⟩ = some (.slice Av e.ys.length cv) := (World.cell?_setCell_far w7 ⟨p, 3, none⟩ ⟨gl, kl + i, none⟩ _ (fun q => lnep.1 q.symm)).trans t2
                  have u3 : (w7.setCell ⟨p, 3, none⟩ (.bool false)).cell? ⟨gw, kw + i, none⟩ = some (.slice Au e.ys.length cu) := (World.cell?_setCell_far w7 ⟨p, 3, none⟩ ⟨gw, kw + i, none⟩ _ (fun q => lnep.2 q.symm)).trans t3
                  clear hu7 hb7 r8))
      have HU8 := hide (HU7.out.trans (Upd.setCell w7 ⟨p, 3, none⟩ (.bool false) (S := (· = p)) rfl) (fun b q => .inl (q ▸ K0.out.fp)))
      clear t0 t1 t2 t3 t4 t5 s0 s1 s2 s3 s4 d0 d1 d3 x0 x1 u0 u1 u2 u3 u4
      generalize w7.setCell ⟨p, 3, none⟩ (.bool false) = wx at *
      go_wp2_with fail
      go_roundw
      case rel => exact ⟨i + 1, by go_num, by omega, K8, HU8⟩
      case measure => simp [intOf]; omega
    · go_wp2_with fail
      go_ret
      exact ⟨rfl, KB.out, HUr.out⟩
end LA
end Go.Proofs.Ytenfikfgliljmaa
