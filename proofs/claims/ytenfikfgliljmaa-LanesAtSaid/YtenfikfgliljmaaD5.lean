import Derived.Test.YtenfikfgliljmaaD2
namespace Go.Proofs.Ytenfikfgliljmaa
open Go.RowKit
namespace LA
/-- What is told once the stints from here on are taken. -/
def atFin (M o : Int) (ys : List Stint) (q : Know) : Int × Int :=
  let p := atGo M o ys q
  let r := if p.2 = true then (takeL M o p.1 (-1) M).1 else p.1
  (r.who, r.left)
theorem atL_fin {xs : List Stint} {M o : Int} (h0 : 0 ≤ o) (h1 : o < M) : atL xs M o = atFin M o xs ⟨0, -1, 0⟩ := by unfold atL atFin; rw [if_neg (by omega)]
theorem atFin_take {M o : Int} {x : Stint} {r : List Stint} {q q' : Know} {b : Bool} (ht : 0 < x.ticks) (h : takeL M o q x.subj x.ticks = (q', b)) : atFin M o (x :: r) q = if b = true then atFin M o r q' else (q'.who, q'.left) := by
  unfold atFin; rw [atGo, if_pos ht, h]; cases b <;> rfl
theorem atFin_skip {M o : Int} {x : Stint} {r : List Stint} {q : Know} (ht : ¬ 0 < x.ticks) : atFin M o (x :: r) q = atFin M o r q := by
  unfold atFin; rw [atGo, if_neg ht]
theorem atFin_nil {M o : Int} {q q' : Know} {b : Bool} (h : takeL M o q (-1) M = (q', b)) : atFin M o [] q = (q'.who, q'.left) := by
  unfold atFin; rw [atGo]; simp only [if_true]; rw [h]

theorem take_a {M o e who l s t e1 s1 : Int} (q1 : e + min t (M - e) = e1) (q2 : max s (-1) = s1) (hl : 0 < l) (hw : s1 = who) (he : o < e) (he1 : e ≤ e1) : takeL M o ⟨e, who, l⟩ s t = (⟨e1, who, l + (e1 - e)⟩, decide (e1 < M)) := by
  simp only [takeL, q1, q2]; rw [if_neg (by omega), if_neg (by omega), if_pos hw]
theorem take_b {M o e who l s t e1 s1 : Int} (q1 : e + min t (M - e) = e1) (q2 : max s (-1) = s1) (hl : 0 < l) (hw : s1 ≠ who) (he : o < e) (he1 : e ≤ e1) : takeL M o ⟨e, who, l⟩ s t = (⟨e1, who, l⟩, false) := by
  simp only [takeL, q1, q2]; rw [if_neg (by omega), if_neg (by omega), if_neg hw]
theorem take_c {M o e who s t e1 s1 : Int} (q1 : e + min t (M - e) = e1) (q2 : max s (-1) = s1) (he : e ≤ o) (hc : o < e1) : takeL M o ⟨e, who, 0⟩ s t = (⟨e1, s1, e1 - o⟩, decide (e1 < M)) := by
  simp only [takeL, q1, q2]; rw [if_neg (by omega), if_pos trivial, show max e o = o by omega]
theorem take_d {M o e who s t e1 s1 : Int} (q1 : e + min t (M - e) = e1) (q2 : max s (-1) = s1) (hc : e1 ≤ o) : takeL M o ⟨e, who, 0⟩ s t = (⟨e1, who, 0⟩, decide (e1 < M)) := by
  simp only [takeL, q1, q2]; rw [if_pos hc]

/-- Where the reference stands: it still takes stints, or all is known. -/
def RefAt (xs : List Stint) (M o : Int) (k : Nat) (q : Know) : Prop :=
  (k ≤ xs.length ∧ 0 ≤ q.e ∧ q.e < M ∧ ((q.left = 0 ∧ q.e ≤ o) ∨ (0 < q.left ∧ q.left ≤ q.e ∧ o < q.e)) ∧ atFin M o (xs.drop k) q = atL xs M o) ∨ (k ≤ xs.length + 1 ∧ q.e = M ∧ (q.who, q.left) = atL xs M o)

theorem RefAt.step {xs : List Stint} {M o : Int} {k : Nat} {q q' : Know} {b : Bool} (hk : k < xs.length) (hC : atFin M o (xs.drop k) q = atL xs M o) (ht : 0 < xs[k].ticks) (h : takeL M o q xs[k].subj xs[k].ticks = (q', decide (q'.e < M)))
    (h0 : 0 ≤ q'.e) (h1 : q'.e ≤ M) (hi : (q'.left = 0 ∧ q'.e ≤ o) ∨ (0 < q'.left ∧ q'.left ≤ q'.e ∧ o < q'.e)) : RefAt xs M o (k + 1) q' := by
  rw [List.drop_eq_getElem_cons hk, atFin_take ht h] at hC
  by_cases c : q'.e < M
  · rw [decide_eq_true c, if_pos rfl] at hC
    exact .inl ⟨hk, h0, c, hi, hC⟩
  · rw [decide_eq_false c, if_neg (by simp)] at hC
    exact .inr ⟨by omega, by omega, hC⟩
theorem RefAt.last {xs : List Stint} {M o : Int} {q q' : Know} {b : Bool} (hC : atFin M o (xs.drop xs.length) q = atL xs M o) (h : takeL M o q (-1) M = (q', b)) (h1 : q'.e = M) : RefAt xs M o (xs.length + 1) q' := by
  rw [List.drop_length, atFin_nil h] at hC
  exact .inr ⟨Nat.le_refl _, h1, hC⟩

set_option maxHeartbeats 4000000 in
set_option maxRecDepth 100000 in
theorem refAt_any (A : Option Addr) (cap0 : Nat) (xs : List Stint) (M o : Int) (w : World) (hn : xs.length ≤ 8796093022208) (hM1 : M ≤ 9223372036854775807) (hr : StintsAt w A xs) (hok : StintsOk xs) :
    Calls Try.prog 26 #[.slice A xs.length cap0, .int .i64 M, .int .i64 o] w (AtPost xs M o w) := by
  by_cases hneg : o < 0
  · have H := hide (show atL xs M o = (-1, 0) by unfold atL; rw [if_pos (.inl hneg)])
    clear hr hok
    go_enter Try.func26, Try.ntmps26
    go_wp2_with fail
    go_ret2
    exact ⟨by rw [H.out]; rfl, Below.refl _ _⟩
  by_cases hge : M ≤ o
  · have H := hide (show atL xs M o = (-1, 0) by unfold atL; rw [if_pos (.inr hge)])
    clear hr hok
    go_enter Try.func26, Try.ntmps26
    go_wp2_with fail
    go_ret2
    exact ⟨by rw [H.out]; rfl, Below.refl _ _⟩
  have HR := hide hr
  have HO := hide hok
  clear hr hok
  go_enter Try.func26, Try.ntmps26
  go_wp2_with fail
  go_loopw [8, 9, 10, 11] (fun v8 v9 v10 v11 wr => ∃ (k : Nat) (q : Know), v8 = .int .i64 q.who ∧ v9 = .int .i64 q.left ∧ v10 = .int .i64 q.e ∧ v11 = .int .i64 k ∧ Hid (RefAt xs M o k q) ∧ wr = w) (fun _ _ _ v _ => xs.length + 2 - (intOf v).toNat)
  case atStart => exact ⟨0, ⟨0, -1, 0⟩, rfl, rfl, rfl, rfl, hide (.inl ⟨Nat.zero_le _, by simp, by simp only; omega, .inl ⟨rfl, by simp only; omega⟩, by rw [List.drop_zero, atL_fin (by omega) (by omega)]⟩), rfl⟩
  case round =>
    obtain ⟨k, ⟨e, who, l⟩, rfl, rfl, rfl, rfl, HI, rfl⟩ := hrel
    rcases HI.out with ⟨hk, e0, e1, hin, hC⟩ | ⟨hk, he, hC⟩
    · simp only at e0 e1 hin
      have HC := hide hC
      clear hC
      by_cases hlt : k < xs.length
      · obtain ⟨b, off, hA, n0, n1⟩ := HR.out k hlt
        subst hA
        have HK : Hid (∀ x, x = xs[k] → ∀ q' : Know, 0 < x.ticks → takeL M o ⟨e, who, l⟩ x.subj x.ticks = (q', decide (q'.e < M)) → 0 ≤ q'.e → q'.e ≤ M → ((q'.left = 0 ∧ q'.e ≤ o) ∨ (0 < q'.left ∧ q'.left ≤ q'.e ∧ o < q'.e)) → RefAt xs M o (k + 1) q') :=
          hide (fun x hx q' h1 h2 h3 h4 h5 => by subst hx; exact RefAt.step (b := true) hlt HC.out h1 h2 h3 h4 h5)
        obtain ⟨x, hx⟩ : ∃ x, x = xs[k] := ⟨_, rfl⟩
        rw [← hx] at n0 n1
        obtain ⟨o1, o2, o3, o4⟩ := HO.out x (hx ▸ List.getElem_mem hlt)
        have HX := hide hx
        have HStop : Hid (∀ q' : Know, 0 < x.ticks → takeL M o ⟨e, who, l⟩ x.subj x.ticks = (q', false) → (q'.who, q'.left) = atL xs M o) :=
          hide (fun q' h1 h2 => by have := HC.out; rw [List.drop_eq_getElem_cons hlt, ← hx, atFin_take h1 h2, if_neg (by simp)] at this; exact this)
        have HSkip : Hid (¬ 0 < x.ticks → RefAt xs M o (k + 1) ⟨e, who, l⟩) :=
          hide (fun h1 => by have := HC.out; rw [List.drop_eq_getElem_cons hlt, ← hx, atFin_skip h1] at this; exact .inl ⟨hlt, e0, e1, hin, this⟩)
        clear hx HI
        by_cases ht : 0 < x.ticks
        · by_cases hmn : x.ticks < M - e
          · by_cases hs : 0 ≤ x.subj
            · rcases hin with ⟨hl, hin⟩ | ⟨hl, hl2, hin⟩
              · subst hl
                by_cases hc : o < e + x.ticks
                · have Hn := hide (HK.out x HX.out ⟨e + x.ticks, x.subj, e + x.ticks - o⟩ ht (take_c (by omega) (by omega) (by omega) hc) (by simp only; omega) (by simp only; omega) (.inr ⟨by simp only; omega, by simp only; omega, by simp only; omega⟩))
                  clear HStop HSkip
                  go_wp2_with fail
                  go_roundw
                  case rel => exact ⟨k + 1, ⟨e + x.ticks, x.subj, e + x.ticks - o⟩, rfl, rfl, by go_num, by go_num, Hn, by trivial⟩
                  case measure => simp [intOf] <;> omega
                · replace hc : e + x.ticks ≤ o := by omega
                  have Hn := hide (HK.out x HX.out ⟨e + x.ticks, who, 0⟩ ht (take_d (s1 := x.subj) (by omega) (by omega) hc) (by simp only; omega) (by simp only; omega) (.inl ⟨rfl, hc⟩))
                  clear HStop HSkip
                  go_wp2_with fail
                  go_roundw
                  case rel => exact ⟨k + 1, ⟨e + x.ticks, who, 0⟩, rfl, rfl, by go_num, by go_num, Hn, by trivial⟩
                  case measure => simp [intOf] <;> omega
              · by_cases hw : x.subj = who
                · have lw : (x.subj == who) = true := beq_iff_eq.2 hw
                  have Hn := hide (HK.out x HX.out ⟨e + x.ticks, who, l + (e + x.ticks - e)⟩ ht (take_a (s1 := x.subj) (by omega) (by omega) hl hw (by omega) (by omega)) (by simp only; omega) (by simp only; omega) (.inr ⟨by simp only; omega, by simp only; omega, by simp only; omega⟩))
                  clear hw HStop HSkip
                  go_wp2_with fail
                  go_roundw
                  case rel => exact ⟨k + 1, ⟨e + x.ticks, who, l + (e + x.ticks - e)⟩, rfl, by first | rfl | (simp only; congr 1; omega), by go_num, by go_num, Hn, by trivial⟩
                  case measure => simp [intOf] <;> omega
                · have lw : (x.subj == who) = false := beq_eq_false_iff_ne.2 hw
                  have Hn := hide (HStop.out ⟨e + x.ticks, who, l⟩ ht (take_b (s1 := x.subj) (by omega) (by omega) hl hw (by omega) (by omega)))
                  clear hw HSkip HK
                  go_wp2_with fail
                  go_ret2
                  exact ⟨by rw [← Hn.out]; rfl, Below.refl _ _⟩
            · rcases hin with ⟨hl, hin⟩ | ⟨hl, hl2, hin⟩
              · subst hl
                by_cases hc : o < e + x.ticks
                · have Hn := hide (HK.out x HX.out ⟨e + x.ticks, -1, e + x.ticks - o⟩ ht (take_c (by omega) (by omega) (by omega) hc) (by simp only; omega) (by simp only; omega) (.inr ⟨by simp only; omega, by simp only; omega, by simp only; omega⟩))
                  clear HStop HSkip
                  go_wp2_with fail
                  go_roundw
                  case rel => exact ⟨k + 1, ⟨e + x.ticks, -1, e + x.ticks - o⟩, rfl, rfl, by go_num, by go_num, Hn, by trivial⟩
                  case measure => simp [intOf] <;> omega
                · replace hc : e + x.ticks ≤ o := by omega
                  have Hn := hide (HK.out x HX.out ⟨e + x.ticks, who, 0⟩ ht (take_d (s1 := -1) (by omega) (by omega) hc) (by simp only; omega) (by simp only; omega) (.inl ⟨rfl, hc⟩))
                  clear HStop HSkip
                  go_wp2_with fail
                  go_roundw
                  case rel => exact ⟨k + 1, ⟨e + x.ticks, who, 0⟩, rfl, rfl, by go_num, by go_num, Hn, by trivial⟩
                  case measure => simp [intOf] <;> omega
              · by_cases hw : -1 = who
                · have lw : (-1 == who) = true := beq_iff_eq.2 hw
                  have Hn := hide (HK.out x HX.out ⟨e + x.ticks, who, l + (e + x.ticks - e)⟩ ht (take_a (s1 := -1) (by omega) (by omega) hl hw (by omega) (by omega)) (by simp only; omega) (by simp only; omega) (.inr ⟨by simp only; omega, by simp only; omega, by simp only; omega⟩))
                  clear hw HStop HSkip
                  go_wp2_with fail
                  go_roundw
                  case rel => exact ⟨k + 1, ⟨e + x.ticks, who, l + (e + x.ticks - e)⟩, rfl, by first | rfl | (simp only; congr 1; omega), by go_num, by go_num, Hn, by trivial⟩
                  case measure => simp [intOf] <;> omega
                · have lw : (-1 == who) = false := beq_eq_false_iff_ne.2 hw
                  have Hn := hide (HStop.out ⟨e + x.ticks, who, l⟩ ht (take_b (s1 := -1) (by omega) (by omega) hl hw (by omega) (by omega)))
                  clear hw HSkip HK
                  go_wp2_with fail
                  go_ret2
                  exact ⟨by rw [← Hn.out]; rfl, Below.refl _ _⟩
          · by_cases hs : 0 ≤ x.subj
            · rcases hin with ⟨hl, hin⟩ | ⟨hl, hl2, hin⟩
              · subst hl
                by_cases hc : o < e + (M - e)
                · have Hn := hide (HK.out x HX.out ⟨e + (M - e), x.subj, e + (M - e) - o⟩ ht (take_c (by omega) (by omega) (by omega) hc) (by simp only; omega) (by simp only; omega) (.inr ⟨by simp only; omega, by simp only; omega, by simp only; omega⟩))
                  clear HStop HSkip
                  go_wp2_with fail
                  go_roundw
                  case rel => exact ⟨k + 1, ⟨e + (M - e), x.subj, e + (M - e) - o⟩, rfl, rfl, by go_num, by go_num, Hn, by trivial⟩
                  case measure => simp [intOf] <;> omega
                · exfalso; omega
              · by_cases hw : x.subj = who
                · have lw : (x.subj == who) = true := beq_iff_eq.2 hw
                  have Hn := hide (HK.out x HX.out ⟨e + (M - e), who, l + (e + (M - e) - e)⟩ ht (take_a (s1 := x.subj) (by omega) (by omega) hl hw (by omega) (by omega)) (by simp only; omega) (by simp only; omega) (.inr ⟨by simp only; omega, by simp only; omega, by simp only; omega⟩))
                  clear hw HStop HSkip
                  go_wp2_with fail
                  go_roundw
                  case rel => exact ⟨k + 1, ⟨e + (M - e), who, l + (e + (M - e) - e)⟩, rfl, by first | rfl | (simp only; congr 1; omega), by go_num, by go_num, Hn, by trivial⟩
                  case measure => simp [intOf] <;> omega
                · have lw : (x.subj == who) = false := beq_eq_false_iff_ne.2 hw
                  have Hn := hide (HStop.out ⟨e + (M - e), who, l⟩ ht (take_b (s1 := x.subj) (by omega) (by omega) hl hw (by omega) (by omega)))
                  clear hw HSkip HK
                  go_wp2_with fail
                  go_ret2
                  exact ⟨by rw [← Hn.out]; rfl, Below.refl _ _⟩
            · rcases hin with ⟨hl, hin⟩ | ⟨hl, hl2, hin⟩
              · subst hl
                by_cases hc : o < e + (M - e)
                · have Hn := hide (HK.out x HX.out ⟨e + (M - e), -1, e + (M - e) - o⟩ ht (take_c (by omega) (by omega) (by omega) hc) (by simp only; omega) (by simp only; omega) (.inr ⟨by simp only; omega, by simp only; omega, by simp only; omega⟩))
                  clear HStop HSkip
                  go_wp2_with fail
                  go_roundw
                  case rel => exact ⟨k + 1, ⟨e + (M - e), -1, e + (M - e) - o⟩, rfl, rfl, by go_num, by go_num, Hn, by trivial⟩
                  case measure => simp [intOf] <;> omega
                · exfalso; omega
              · by_cases hw : -1 = who
                · have lw : (-1 == who) = true := beq_iff_eq.2 hw
                  have Hn := hide (HK.out x HX.out ⟨e + (M - e), who, l + (e + (M - e) - e)⟩ ht (take_a (s1 := -1) (by omega) (by omega) hl hw (by omega) (by omega)) (by simp only; omega) (by simp only; omega) (.inr ⟨by simp only; omega, by simp only; omega, by simp only; omega⟩))
                  clear hw HStop HSkip
                  go_wp2_with fail
                  go_roundw
                  case rel => exact ⟨k + 1, ⟨e + (M - e), who, l + (e + (M - e) - e)⟩, rfl, by first | rfl | (simp only; congr 1; omega), by go_num, by go_num, Hn, by trivial⟩
                  case measure => simp [intOf] <;> omega
                · have lw : (-1 == who) = false := beq_eq_false_iff_ne.2 hw
                  have Hn := hide (HStop.out ⟨e + (M - e), who, l⟩ ht (take_b (s1 := -1) (by omega) (by omega) hl hw (by omega) (by omega)))
                  clear hw HSkip HK
                  go_wp2_with fail
                  go_ret2
                  exact ⟨by rw [← Hn.out]; rfl, Below.refl _ _⟩
        · have Hs := hide (HSkip.out ht)
          clear HSkip HStop HK hin
          go_wp2_with fail
          go_roundw
          case rel => exact ⟨k + 1, ⟨e, who, l⟩, rfl, rfl, rfl, by go_num, Hs, by trivial⟩
          case measure => simp [intOf]; omega
      · obtain rfl : k = xs.length := by omega
        have HL : Hid (∀ (q' : Know) (b : Bool), takeL M o ⟨e, who, l⟩ (-1) M = (q', b) → q'.e = M → RefAt xs M o (xs.length + 1) q') := hide (fun q' b h1 h2 => RefAt.last HC.out h1 h2)
        have HStop : Hid (∀ (q' : Know) (b : Bool), takeL M o ⟨e, who, l⟩ (-1) M = (q', b) → (q'.who, q'.left) = atL xs M o) :=
          hide (fun q' b h1 => by have := HC.out; rw [List.drop_length, atFin_nil h1] at this; exact this)
        clear HI
        rcases hin with ⟨hl, hin⟩ | ⟨hl, hl2, hin⟩
        · subst hl
          by_cases hc : o < e + (M - e)
          · have Hn := hide (HL.out ⟨e + (M - e), -1, e + (M - e) - o⟩ _ (take_c (by omega) (by omega) (by omega) hc) (by simp only; omega))
            clear HStop
            go_wp2_with fail
            go_roundw
            case rel => exact ⟨xs.length + 1, ⟨e + (M - e), -1, e + (M - e) - o⟩, rfl, rfl, by go_num, by go_num, Hn, by trivial⟩
            case measure => simp [intOf] <;> omega
          · exfalso; omega
        · by_cases hw : -1 = who
          · have lw : (-1 == who) = true := beq_iff_eq.2 hw
            have Hn := hide (HL.out ⟨e + (M - e), who, l + (e + (M - e) - e)⟩ _ (take_a (s1 := -1) (by omega) (by omega) hl hw (by omega) (by omega)) (by simp only; omega))
            clear hw HStop
            go_wp2_with fail
            go_roundw
            case rel => exact ⟨xs.length + 1, ⟨e + (M - e), who, l + (e + (M - e) - e)⟩, rfl, by first | rfl | (simp only; congr 1; omega), by go_num, by go_num, Hn, by trivial⟩
            case measure => simp [intOf] <;> omega
          · have lw : (-1 == who) = false := beq_eq_false_iff_ne.2 hw
            have Hn := hide (HStop.out ⟨e + (M - e), who, l⟩ _ (take_b (s1 := -1) (by omega) (by omega) hl hw (by omega) (by omega)))
            clear hw HL
            go_wp2_with fail
            go_ret2
            exact ⟨by rw [← Hn.out]; rfl, Below.refl _ _⟩
    · simp only at he
      subst he
      have HC := hide hC
      clear hC HI
      go_wp2_with fail
      all_goals go_ret2
      all_goals exact ⟨by rw [← HC.out]; rfl, Below.refl _ _⟩
end LA
end Go.Proofs.Ytenfikfgliljmaa
