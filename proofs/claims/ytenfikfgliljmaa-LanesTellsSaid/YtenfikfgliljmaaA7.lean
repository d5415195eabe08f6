import Derived.Test.YtenfikfgliljmaaA6
namespace Go.Proofs.Ytenfikfgliljmaa
open Go.RowKit
namespace LA
theorem downL_length (n : Nat) : ∀ (d i : Nat) (l : List Job), n - i ≤ d → (downL l i n).1.length = l.length := by
  intro d
  induction d with
  | zero => intro i l h; rw [downL_end l i n (by omega)]
  | succ d ih =>
    intro i l h
    by_cases h0 : n ≤ 2 * i + 1
    · rw [downL_end l i n h0]
    · cases hk : lessJ (l.getD (kid l i n) .zero) (l.getD i .zero) with
      | false => rw [downL_no l i n h0 hk]
      | true =>
        rw [downL_yes l i n h0 hk, ih _ _ (by have : i < kid l i n := by unfold kid; split <;> omega
                                              omega), swapL_length]

/-- What a heap is behind the removal of its head. -/
def popL (js : List Job) : List Job := (downL (swapL js 0 (js.length - 1)) 0 (js.length - 1)).1

def PopPost (p g : Nat) (d : List Job) (cap : Nat) (w : World) (e : Ending) (w' : World) : Prop :=
  e = .returned (.iface 96 (d.getLast?.getD .zero).agg) ∧ ∃ cur', JAt w' p g d.dropLast cap cur' ∧ Upd (fun b => b = p ∨ b = g) w w'

set_option maxHeartbeats 800000 in
set_option maxRecDepth 100000 in
theorem hpop_any (p g : Nat) (js : List Job) (cap : Nat) (cur : Array Value) (w : World) (hlen : js.length ≤ 1099511627775) (h0 : 0 < js.length) (HJ : JAt w p g js cap cur) :
    Calls Try.prog 57 #[.iface 91 (.pointer (some ⟨p, 0, none⟩))] w (PopPost p g (popL js) cap w) := by
  obtain ⟨m, hm⟩ : ∃ m, js.length = m + 1 := ⟨js.length - 1, by omega⟩
  have hml := m_len p w _ _ _ HJ.cellp
  have hms := m_swap p w _ _ _ HJ.cellp
  rw [hm] at hml hms
  have hsw := swap_any g (m + 1) cap 0 (m : Int) cur js w (by omega) (by omega) (by omega) (by omega) hm.symm HJ.2.1 HJ.2.2.2.2.2.2
  rw [Int.toNat_natCast, show (0 : Int).toNat = 0 from rfl] at hsw
  have Hsw := hide hsw
  have H0 := hide HJ
  have Hm := hide hm
  clear hsw HJ hm
  have hm : m < 1099511627775 := by have := Hm.out; omega
  go_enter Try.func57, Try.ntmps57
  go_wp2_with fail
  refine (len_any _ _ _ _).mono ?_
  rintro e w1 ⟨rfl, rfl⟩
  go_wp2_with fail
  refine Hsw.out.mono ?_
  rintro e w1 ⟨rfl, cu1, s1, r1, c1, u1⟩
  have J1 : JAt w1 p g (swapL js 0 m) cap cu1 := H0.out.upd u1 (fun e => H0.out.2.2.1 e.symm) s1 r1 c1 (swapL_length _ _ _)
  have Hd := hide (down_any p g (swapL js 0 m) cap cu1 0 (m : Int) w1 (by omega) (by omega) (by rw [swapL_length, Hm.out]; omega) (by rw [swapL_length]; omega) J1)
  have U1 := hide u1
  clear s1 r1 c1 u1 J1
  go_wp2_with fail
  refine Hd.out.mono ?_
  rintro e w2 ⟨he, cu2, J2, u2⟩
  rw [Int.toNat_natCast, show (0 : Int).toNat = 0 from rfl] at he J2
  subst he
  have hpl : (downL (swapL js 0 m) 0 m).1 = popL js := by unfold popL; rw [Hm.out]; rfl
  have hl2 : (popL js).length = m + 1 := by rw [← hpl, downL_length m m 0 _ (by omega), swapL_length, Hm.out]
  rw [hpl] at J2
  have hne : popL js ≠ [] := by intro h; rw [h] at hl2; simp at hl2
  rw [show popL js = (popL js).dropLast ++ [(popL js).getLast?.getD .zero] by rw [List.getLast?_eq_some_getLast hne]; exact (List.dropLast_concat_getLast hne).symm] at J2
  have hmp := m_pop p w2
  have Hp := hide (popm_any p g (popL js).dropLast ((popL js).getLast?.getD .zero) cap cu2 w2 (by rw [List.length_dropLast, hl2]; omega) J2)
  have U2 := hide u2
  clear u2 J2 hl2 hpl hne
  generalize popL js = d at *
  generalize decide (0 < (downL (swapL js 0 m) 0 m).2) = bb
  go_wp2_with fail
  refine Hp.out.mono ?_
  rintro e w3 ⟨rfl, cu3, J3, u3⟩
  go_wp2_with fail
  go_ret
  exact ⟨rfl, cu3, J3, ((U1.out.trans U2.out (fun _ h => .inl h)).mono (fun b h _ => .inr h)).trans u3 (fun b h => .inl (.inl h))⟩

def FixPost (p g : Nat) (d : List Job) (cap : Nat) (w : World) (e : Ending) (w' : World) : Prop :=
  e = .returned (.tuple #[]) ∧ ∃ cur', JAt w' p g d cap cur' ∧ Upd (fun b => b = g) w w'

set_option maxHeartbeats 800000 in
set_option maxRecDepth 100000 in
theorem hfix_any (p g : Nat) (js : List Job) (cap : Nat) (cur : Array Value) (w : World) (hlen : js.length ≤ 1099511627775) (h0 : 0 < js.length) (HJ : JAt w p g js cap cur) :
    Calls Try.prog 56 #[.iface 91 (.pointer (some ⟨p, 0, none⟩)), .int .i64 0] w (FixPost p g (downL js 0 js.length).1 cap w) := by
  have hml := m_len p w _ _ _ HJ.cellp
  have Hd := hide (down_any p g js cap cur 0 (js.length : Int) w (by omega) (by omega) (by omega) (by omega) HJ)
  clear HJ
  go_enter Try.func56, Try.ntmps56
  go_wp2_with fail
  refine (len_any _ _ _ _).mono ?_
  rintro e w1 ⟨rfl, rfl⟩
  go_wp2_with fail
  refine Hd.out.mono ?_
  rintro e w2 ⟨he, cu2, J2, u2⟩
  rw [Int.toNat_natCast, show (0 : Int).toNat = 0 from rfl] at he J2
  have hl2 : (downL js 0 js.length).1.length = js.length := downL_length _ js.length 0 _ (by omega)
  have Hup := up_any p g (downL js 0 js.length).1 cap cu2 0 w2 (by omega) (by rw [hl2]; omega) J2
  rw [show (0 : Int).toNat = 0 from rfl, upL_zero] at Hup
  have Hup' := hide Hup
  have HJ2 := hide J2
  have U2 := hide u2
  clear Hup J2 u2 hl2
  generalize (downL js 0 js.length).1 = d at *
  cases hb : decide (0 < (downL js 0 js.length).2) with
  | true =>
    rw [hb] at he
    subst he
    clear hb
    go_wp2_with fail
    go_end0
    exact ⟨rfl, cu2, HJ2.out, U2.out⟩
  | false =>
    rw [hb] at he
    subst he
    clear hb
    go_wp2_with fail
    refine Hup'.out.mono ?_
    rintro e w3 ⟨rfl, cu3, J3, u3⟩
    go_wp2_with fail
    go_end0
    exact ⟨rfl, cu3, J3, U2.out.trans u3 (fun _ h => .inl h)⟩
end LA
end Go.Proofs.Ytenfikfgliljmaa
