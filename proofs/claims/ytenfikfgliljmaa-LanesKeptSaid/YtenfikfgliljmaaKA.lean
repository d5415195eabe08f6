/- bulkheadbook's Apart. -/
import Derived.Test.YtenfikfgliljmaaKM
import Derived.Test.YtenfikfgliljmaaMY
import Derived.Deep.QuietTactic
import Derived.BigQuiet
namespace Go.Proofs.Ytenfikfgliljmaa
open Go.RowKit
namespace LA
def ApartPost (F : Nat → Prop) (w : World) (e : Ending) (w' : World) : Prop := e = .returned (.bool true) ∧ Upd F w w'
set_option maxHeartbeats 6400000 in
set_option maxRecDepth 100000 in
theorem apart_any (p : Nat) (lv wv : Value) (h : Int) (E : List Ent) (F : Nat → Prop) (w : World) (k : BkAt w p lv wv h E F) (hE : E.length ≤ 1000) :
    Calls Try.prog 33 #[.pointer (some ⟨p, 0, none⟩), .func (.func 34) #[] #[]] w (ApartPost F w) := by
  have HSt := hide (stays_any p lv wv h E F w k hE)
  go_enter Try.func33, Try.ntmps33
  go_wp2_with fail
  refine HSt.out.mono ?_
  rintro e w1 ⟨rfl, hk1, hu1⟩
  clear k
  obtain ⟨Al, cl, rfl⟩ := hk1.ls.len
  simp only [List.length_map] at hk1
  have K1 := hide hk1
  have HU1 := hide hu1
  have HM1 := hide (MkAt.start hk1)
  have HD := hide hk1.dis
  have HB1 := hide hk1.box
  have HL1 := hide hk1.ls
  clear hk1 hu1 HSt
  go_wp2_with fail
  go_loopw [5] (fun v5 wr => ∃ i : Nat, v5 = .int .i64 i ∧ i ≤ E.length ∧ Hid (MkAt wr E i 0) ∧ Hid (Row wr p 62 #[.slice Al E.length cl, wv, .int .i64 h, .bool false]) ∧ Hid (LSl wr 22 (.slice Al E.length cl) (E.map (·.v))) ∧ Hid (Upd F w wr)) (fun v _ => E.length - (intOf v).toNat)
  case atStart => exact ⟨0, rfl, Nat.zero_le _, HM1, HB1, HL1, HU1⟩
  case round =>
    obtain ⟨i, rfl, hi', HM, HB, HL, HU⟩ := hrel
    have d0 := HB.out.cell (o := 0) rfl
    by_cases hi : i < E.length
    · obtain ⟨gl, kl, cl', hl⟩ := HL.out.form (by simp; omega)
      obtain ⟨rfl, rfl⟩ : Al = some ⟨gl, kl, none⟩ ∧ cl = cl' := by simpa using hl
      have x0 := HL.out.cell i (by simp; omega)
      simp only [List.getElem_map] at x0
      have hent := K1.out.ent E[i] (List.getElem_mem hi)
      have hi0 : (0 : Int) ≤ (i : Int) := by omega
      have hi1 : (i : Int) < (E.length : Int) := by omega
      clear hl
      have fls := K1.out.fl
      have fent := fun (e : Ent) (he : e ∈ E) => (K1.out.ent e he).2.2.1
      have Hfl := hide fls
      have Hfe := hide fent
      clear fls fent
      rcases hent.1 with ⟨hv, _⟩ | ⟨g, cap, cur, hv, _, hsr, _⟩
      · rw [hv] at x0
        have HM2 := hide (HM.out.next hi (fun g n cap e => by rw [hv] at e; cases e))
        clear hent hv
        go_wp2_with fail
        go_quiet (fail)
        go_wp2_with fail
        generalize hwn : wr.drewN nq = wn at *
        have hun : Upd (fun _ => False) wr wn := by rw [← hwn]; exact Upd.drewN _ _
        have HB3 := hide (hun.row HB.out (fun e => e))
        have HL3 := hide (HL.out.upd hun (fun _ _ e => e))
        have HM3 := hide (HM2.out.upd hun (fun _ _ _ _ e => e))
        have HU3 := hide (HU.out.trans hun (fun _ e => e.elim))
        clear hun hwn
        go_loopw [7] (fun v7 wm => v7 = .int .i64 0 ∧ wm = wn) (fun _ _ => 0)
        case atStart => exact ⟨rfl, rfl⟩
        case round =>
          obtain ⟨rfl, rfl⟩ := hrel
          go_wp2_with fail
          go_roundw
          case rel => exact ⟨i + 1, by go_num, by omega, HM3, HB3, HL3, HU3⟩
          case measure => simp [intOf]; omega
      · rw [hv] at x0
        have hcap : E[i].ys.length ≤ cap := hsr.2.1
        obtain ⟨fg, gnp, gnl, _⟩ := hent.2.2.1 g (by rw [hv]; rfl)
        have gnl' : gl ≠ g := fun e => gnl (by rw [e]; rfl)
        have Hv := hide hv
        clear hent hv hsr gnl
        go_wp2_with fail
        go_quiet (fail)
        go_wp2_with fail
        generalize hwn : wr.drewN nq = wn at *
        have hun : Upd (fun _ => False) wr wn := by rw [← hwn]; exact Upd.drewN _ _
        have HB2 := hide (hun.row HB.out (fun e => e))
        have HL2 := hide (HL.out.upd hun (fun _ _ e => e))
        have HM2 := hide (HM.out.upd hun (fun _ _ _ _ e => e))
        have HU2 := hide (HU.out.trans hun (fun _ e => e.elim))
        clear hun hwn
        go_loopw [7] (fun v7 wm => ∃ j : Nat, v7 = .int .i64 j ∧ j ≤ cap ∧ Hid (MkAt wm E i j) ∧ Hid (Row wm p 62 #[.slice (some ⟨gl, kl, none⟩) E.length cl, wv, .int .i64 h, .bool false]) ∧ Hid (LSl wm 22 (.slice (some ⟨gl, kl, none⟩) E.length cl) (E.map (·.v))) ∧ Hid (Upd F w wm)) (fun v _ => cap - (intOf v).toNat)
        case atStart => exact ⟨0, rfl, Nat.zero_le _, HM2, HB2, HL2, HU2⟩
        case round =>
          obtain ⟨j, rfl, hj', HM3, HB3, HL3, HU3⟩ := hrel
          generalize wr = wm at *
          have hj0 : (0 : Int) ≤ (j : Int) := by omega
          obtain ⟨cur2, hr2, hs2, hcm', _⟩ := HM3.out.cells hi Hv.out
          have hcm : cap ≤ 9223372036854775807 := hcm'
          by_cases hj : j < cap
          · have hj1 : (j : Int) < (cap : Int) := by omega
            go_wp2_with fail
            refine (mark_any i j wm (by omega)).mono ?_
            rintro e w2 ⟨rfl, hb2⟩
            have hub : Upd (fun _ => False) wm w2 := Upd.of_below hb2 (fun b q1 q2 => by omega)
            have hr3 := hub.row hr2 (fun e => e)
            have HB4 := hide (hub.row HB3.out (fun e => e))
            have HL4 := hide (HL3.out.upd hub (fun _ _ e => e))
            have HM4 := hide (HM3.out.upd hub (fun _ _ _ _ e => e))
            have HU4 := hide (HU3.out.trans hub (fun _ e => e.elim))
            clear hub hb2
            obtain ⟨q0, hq0⟩ : ∃ v, cur2[j * 3]? = some v := ⟨cur2[j * 3], Array.getElem?_eq_getElem (by omega)⟩
            have hr4 := hr3.setCell (j * 3) (.string ⟨#[]⟩)
            have hr5 := hr4.setCell (j * 3 + 1) (.int .i64 (-1 - (i : Int)))
            obtain ⟨q1, hq1⟩ : ∃ v, (cur2.setIfInBounds (j * 3) (.string ⟨#[]⟩))[j * 3 + 1]? = some v := ⟨_, Array.getElem?_eq_getElem (by simp; omega)⟩
            obtain ⟨q2, hq2⟩ : ∃ v, ((cur2.setIfInBounds (j * 3) (.string ⟨#[]⟩)).setIfInBounds (j * 3 + 1) (.int .i64 (-1 - (i : Int))))[j * 3 + 2]? = some v := ⟨_, Array.getElem?_eq_getElem (by simp; omega)⟩
            have c0 := hr3.cell (o := j * 3) hq0
            have f0 := hr3.frozen (j * 3)
            have c1 := hr4.cell (o := j * 3 + 1) hq1
            have f1 := hr4.frozen (j * 3 + 1)
            have c2 := hr5.cell (o := j * 3 + 2) hq2
            have f2 := hr5.frozen (j * 3 + 2)
            have hum := setm_upd w2 g j (.string ⟨#[]⟩) (.int .i64 (-1 - (i : Int))) (.int .i64 0)
            have HM6 := hide (HM4.out.set HD.out hi Hv.out hj)
            have HB6 := hide (hum.row HB4.out (fun e => gnp e.symm))
            have HL6 := hide (HL4.out.upd hum (fun b hb e => by rw [e] at hb; exact gnl' (by simpa [Value.ownBlock] using hb)))
            have HU6 := hide (HU4.out.trans hum (fun b e => .inl (by rw [e]; exact fg)))
            clear hr3 hr4 hr5 hq0 hq1 hq2 hum
            go_wp2_with fail
            go_roundw
            case rel => exact ⟨j + 1, by go_num, by omega, HM6, HB6, HL6, HU6⟩
            case measure => simp [intOf]; omega
          · obtain rfl : j = cap := by omega
            have HM5 := hide (HM3.out.next hi (fun g' n' cap' e => by rw [Hv.out] at e; cases e; exact Nat.le_refl _))
            go_wp2_with fail
            go_roundw
            case rel => exact ⟨i + 1, by go_num, by omega, HM5, HB3, HL3, HU3⟩
            case measure => simp [intOf]; omega
    · obtain rfl : i = E.length := by omega
      go_wp2_with fail
      go_loopw [8] (fun v8 wr => ∃ i : Nat, v8 = .int .i64 i ∧ i ≤ E.length ∧ Hid (MkAt wr E E.length 0) ∧ Hid (Row wr p 62 #[.slice Al E.length cl, wv, .int .i64 h, .bool false]) ∧ Hid (LSl wr 22 (.slice Al E.length cl) (E.map (·.v))) ∧ Hid (Upd F w wr)) (fun v _ => E.length - (intOf v).toNat)
      case atStart => exact ⟨0, rfl, Nat.zero_le _, HM, HB, HL, HU⟩
      case round =>
        clear HM HB HL HU hi' hi d0
        generalize wr = wo at *
        obtain ⟨i, rfl, hi', HM, HB, HL, HU⟩ := hrel
        rename World => wy
        have d0 := HB.out.cell (o := 0) rfl
        by_cases hi : i < E.length
        · obtain ⟨gl, kl, cl', hl⟩ := HL.out.form (by simp; omega)
          obtain ⟨rfl, rfl⟩ : Al = some ⟨gl, kl, none⟩ ∧ cl = cl' := by simpa using hl
          have x0 := HL.out.cell i (by simp; omega)
          simp only [List.getElem_map] at x0
          have hent := K1.out.ent E[i] (List.getElem_mem hi)
          have hi0 : (0 : Int) ≤ (i : Int) := by omega
          have hi1 : (i : Int) < (E.length : Int) := by omega
          clear hl
          rcases hent.1 with ⟨hv, _⟩ | ⟨g, cap, cur, hv, _, hsr, _⟩
          · rw [hv] at x0
            clear hent hv
            go_wp2_with fail
            go_quiet (fail)
            go_wp2_with fail
            generalize hwn : wy.drewN nq = wn at *
            have hun : Upd (fun _ => False) wy wn := by rw [← hwn]; exact Upd.drewN _ _
            have HB3 := hide (hun.row HB.out (fun e => e))
            have HL3 := hide (HL.out.upd hun (fun _ _ e => e))
            have HM3 := hide (HM.out.upd hun (fun _ _ _ _ e => e))
            have HU3 := hide (HU.out.trans hun (fun _ e => e.elim))
            clear hun hwn
            go_loopw [10] (fun v7 wm => v7 = .int .i64 0 ∧ wm = wn) (fun _ _ => 0)
            case atStart => exact ⟨rfl, rfl⟩
            case round =>
              obtain ⟨rfl, rfl⟩ := hrel
              go_wp2_with fail
              go_roundw
              case rel => exact ⟨i + 1, by go_num, by omega, HM3, HB3, HL3, HU3⟩
              case measure => simp [intOf]; omega
          · rw [hv] at x0
            have hcap : E[i].ys.length ≤ cap := hsr.2.1
            have Hv := hide hv
            clear hent hv hsr
            go_wp2_with fail
            go_quiet (fail)
            go_wp2_with fail
            generalize hwn : wy.drewN nq = wn at *
            have hun : Upd (fun _ => False) wy wn := by rw [← hwn]; exact Upd.drewN _ _
            have HB2 := hide (hun.row HB.out (fun e => e))
            have HL2 := hide (HL.out.upd hun (fun _ _ e => e))
            have HM2 := hide (HM.out.upd hun (fun _ _ _ _ e => e))
            have HU2 := hide (HU.out.trans hun (fun _ e => e.elim))
            clear hun hwn
            go_loopw [10] (fun v7 wm => ∃ j : Nat, v7 = .int .i64 j ∧ j ≤ cap ∧ Hid (MkAt wm E E.length 0) ∧ Hid (Row wm p 62 #[.slice (some ⟨gl, kl, none⟩) E.length cl, wv, .int .i64 h, .bool false]) ∧ Hid (LSl wm 22 (.slice (some ⟨gl, kl, none⟩) E.length cl) (E.map (·.v))) ∧ Hid (Upd F w wm)) (fun v _ => cap - (intOf v).toNat)
            case atStart => exact ⟨0, rfl, Nat.zero_le _, HM2, HB2, HL2, HU2⟩
            case round =>
              obtain ⟨j, rfl, hj', HM3, HB3, HL3, HU3⟩ := hrel
              generalize wr = wm at *
              have hj0 : (0 : Int) ≤ (j : Int) := by omega
              obtain ⟨cur2, hr2, hs2, hcm', hmk⟩ := HM3.out.cells hi Hv.out
              have hcm : cap ≤ 9223372036854775807 := hcm'
              by_cases hj : j < cap
              · have hj1 : (j : Int) < (cap : Int) := by omega
                obtain ⟨m0, m1, m2⟩ := hmk j hj (.inl hi)
                have s0 : wm.drew.cell? ⟨g, j * 3, none⟩ = some (.string ⟨#[]⟩) := hr2.cell (o := j * 3) m0
                have s1 : wm.drew.cell? ⟨g, j * 3 + 1, none⟩ = some (.int .i64 (-1 - (i : Int))) := hr2.cell (o := j * 3 + 1) m1
                have s2 : wm.drew.cell? ⟨g, j * 3 + 2, none⟩ = some (.int .i64 0) := hr2.cell (o := j * 3 + 2) m2
                have lg := hr2.lt
                clear hr2 hmk m0 m1 m2
                go_wp2_with fail
                go_region_held3 (fun W => W.cell? ⟨g, j * 3, none⟩ = some (.string ⟨#[]⟩) ∧ W.cell? ⟨g, j * 3 + 1, none⟩ = some (.int .i64 (-1 - (i : Int))) ∧ W.cell? ⟨g, j * 3 + 2, none⟩ = some (.int .i64 0))
                  (first | exact ⟨s0, s1, s2⟩ | exact ⟨t0, t1, t2⟩)
                  (first | (go_at_call 34; refine (mark_any i j wm.drew (by omega)).mono ?_; rintro e7 w7 ⟨rfl, hb7⟩
                            have t0 : w7.cell? ⟨g, j * 3, none⟩ = some (.string ⟨#[]⟩) := (hb7.cell (p := ⟨g, j * 3, none⟩) lg).trans s0
                            have t1 : w7.cell? ⟨g, j * 3 + 1, none⟩ = some (.int .i64 (-1 - (i : Int))) := (hb7.cell (p := ⟨g, j * 3 + 1, none⟩) lg).trans s1
                            have t2 : w7.cell? ⟨g, j * 3 + 2, none⟩ = some (.int .i64 0) := (hb7.cell (p := ⟨g, j * 3 + 2, none⟩) lg).trans s2
                            have hun : Upd (fun _ => False) wm w7 := (Upd.drew wm).trans (Upd.of_below hb7 (S := fun _ => False) (fun b q1 q2 => by omega)) (fun _ q => q.elim)
                            have HB7 := hide (hun.row HB3.out (fun e => e))
                            have HL7 := hide (HL3.out.upd hun (fun _ _ e => e))
                            have HM7 := hide (HM3.out.upd hun (fun _ _ _ _ e => e))
                            have HU7 := hide (HU3.out.trans hun (fun _ e => e.elim))
                            clear hun hb7))
                clear s0 s1 s2 t0 t1 t2
                go_wp2_with fail
                go_roundw
                case rel => exact ⟨j + 1, by go_num, by omega, HM7, HB7, HL7, HU7⟩
                case measure => simp [intOf]; omega
              · go_wp2_with fail
                go_roundw
                case rel => exact ⟨i + 1, by go_num, by omega, HM3, HB3, HL3, HU3⟩
                case measure => simp [intOf]; omega
        · have r1 := HB.out.setCell 0 (.slice none 0 0)
          have r2 := r1.setCell 1 (.slice none 0 0)
          have r3 := r2.setCell 2 (.int .i64 0)
          have f0 := HB.out.frozen 0
          have f1 := r1.frozen 1
          have f2 := r2.frozen 2
          have c1 := r1.cell (o := 1) (v := wv) (by simp)
          have c2 := r2.cell (o := 2) (v := .int .i64 h) (by simp)
          have HU9 := hide ((((HU.out.trans (Upd.setCell wy ⟨p, 0, none⟩ (.slice none 0 0) (S := (· = p)) rfl) (fun b e => .inl (by rw [e]; exact K1.out.fp))).trans (Upd.setCell _ ⟨p, 1, none⟩ (.slice none 0 0) (S := (· = p)) rfl) (fun b e => .inl (by rw [e]; exact K1.out.fp))).trans (Upd.setCell _ ⟨p, 2, none⟩ (.int .i64 0) (S := (· = p)) rfl) (fun b e => .inl (by rw [e]; exact K1.out.fp))))
          clear r1 r2 r3
          go_wp2_with fail
          go_ret
          exact ⟨rfl, HU9.out⟩
end LA
end Go.Proofs.Ytenfikfgliljmaa
