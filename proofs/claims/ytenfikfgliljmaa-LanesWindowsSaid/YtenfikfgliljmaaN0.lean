/- A part of a whole, as a float: it is a number, never a NaN; plain. -/
import Derived.Test.YtenfikfgliljmaaD4
namespace Go.Proofs.Ytenfikfgliljmaa.LA
open Ieee
theorem dBin : double.binade = 4503599627370496 := by decide
theorem dInf : double.infRung = 2047 * 4503599627370496 := by decide
theorem dSgn : double.signWeight = 2048 * 4503599627370496 := by decide
theorem dLeast : double.leastPlace = -1074 := by decide

theorem read_word (s : Bool) (rung : Nat) (h : rung ≤ double.infRung) : double.read (double.word s rung) =
    if rung < double.binade then .number s rung double.leastPlace else if rung < double.infRung then .number s (double.binade + rung % double.binade) (double.leastPlace + (rung / double.binade - 1 : Nat)) else .infinity s := by
  have hlt : rung < double.signWeight := by rw [dSgn]; rw [dInf] at h; omega
  have h1 : double.word s rung % double.signWeight = rung := by
    unfold Format.word
    cases s
    · rw [if_neg (by simp)]; exact Nat.mod_eq_of_lt hlt
    · rw [if_pos rfl, Nat.add_mod_left]; exact Nat.mod_eq_of_lt hlt
  have h2 : (double.word s rung / double.signWeight % 2 == 1) = s := by
    unfold Format.word
    cases s
    · rw [if_neg (by simp), Nat.div_eq_of_lt hlt]; rfl
    · rw [if_pos rfl, Nat.add_div_left _ (by rw [dSgn]; decide), Nat.div_eq_of_lt hlt]; rfl
  unfold Format.read
  simp only [h1, h2]
  by_cases a : rung < double.binade
  · rw [if_pos a, if_pos a]
  · rw [if_neg a, if_neg a]
    by_cases b : rung < double.infRung
    · rw [if_pos b, if_pos b]
    · rw [if_neg b, if_neg b, if_pos (by omega)]

theorem order_word (s : Bool) (rung : Nat) (h : rung ≤ double.infRung) : double.order (double.word s rung) (double.word s rung) = some .eq := by
  unfold Format.order
  rw [read_word s rung h]
  split
  · simp only [Datum.order]; simp [compare, compareOfLessAndEq]
  · split
    · simp only [Datum.order]; simp [compare, compareOfLessAndEq]
    · simp only [Datum.order]; simp [compare, compareOfLessAndEq]

theorem near_word (s : Bool) (m : Nat) (p : Int) : ∃ rung, rung ≤ double.infRung ∧ double.nearest s m p = double.word s rung := by
  unfold Format.nearest
  by_cases h : m = 0
  · rw [if_pos h]; exact ⟨0, Nat.zero_le _, rfl⟩
  · rw [if_neg h]; exact ⟨_, Nat.min_le_right _ _, rfl⟩

theorem cut_le (s : Bool) (n d : Nat) : Toward.even.cut s n d ≤ n / (1 <<< min d (n.log2 + 2)) + 1 := by
  unfold Toward.cut
  simp only
  have : ∀ b : Bool, b.toNat ≤ 1 := fun b => by cases b <;> decide
  exact Nat.add_le_add_left (this _) _

/-- A whole number that is not nought and not too great is written as a number that is not nought. -/
theorem near_int (s : Bool) (m : Nat) (h0 : 0 < m) (h1 : m < 9223372036854775808) : ∃ q e, 0 < q ∧ double.read (double.nearest s m 0) = .number s q e := by
  have hl : m.log2 ≤ 62 := by
    have := (Nat.log2_lt (by omega : m ≠ 0) (k := 63)).2 (by simpa using h1)
    omega
  have hself : m < 2 ^ (m.log2 + 1) := Nat.lt_log2_self
  have key : ∃ rung, double.binade ≤ rung ∧ rung < double.infRung ∧ double.nearest s m 0 = double.word s rung := by
    unfold Format.nearest
    rw [if_neg (by omega)]
    simp only
    have e0 : max ((0 : Int) + m.log2 - double.fractionBits) double.leastPlace = (m.log2 : Int) - 52 := by
      rw [dLeast, show double.fractionBits = 52 from rfl]; omega
    rw [e0]
    have e1 : (((m.log2 : Int) - 52) - double.leastPlace).toNat = m.log2 + 1022 := by rw [dLeast]; omega
    rw [e1]
    have hk : Toward.even.cut s (m <<< ((0 : Int) - ((m.log2 : Int) - 52)).toNat) (((m.log2 : Int) - 52) - 0).toNat ≤ 9007199254740992 + 1 := by
      refine Nat.le_trans (cut_le _ _ _) ?_
      refine Nat.add_le_add_right ?_ 1
      by_cases c : m.log2 ≤ 52
      · have a1 : ((0 : Int) - ((m.log2 : Int) - 52)).toNat = 52 - m.log2 := by omega
        have a2 : (((m.log2 : Int) - 52) - 0).toNat = 0 := by omega
        rw [a1, a2, Nat.zero_min, Nat.shiftLeft_zero, Nat.div_one, Nat.shiftLeft_eq]
        have : m * 2 ^ (52 - m.log2) < 2 ^ (m.log2 + 1) * 2 ^ (52 - m.log2) := Nat.mul_lt_mul_of_pos_right hself (Nat.two_pow_pos _)
        rw [← Nat.pow_add, show m.log2 + 1 + (52 - m.log2) = 53 by omega] at this
        exact Nat.le_of_lt (by simpa using this)
      · have a1 : ((0 : Int) - ((m.log2 : Int) - 52)).toNat = 0 := by omega
        have a2 : (((m.log2 : Int) - 52) - 0).toNat = m.log2 - 52 := by omega
        rw [a1, a2, Nat.shiftLeft_zero, Nat.min_eq_left (by omega), Nat.shiftLeft_eq, Nat.one_mul]
        refine Nat.le_of_lt ((Nat.div_lt_iff_lt_mul (Nat.two_pow_pos _)).2 ?_)
        have : (9007199254740992 : Nat) * 2 ^ (m.log2 - 52) = 2 ^ (m.log2 + 1) := by
          rw [show (9007199254740992 : Nat) = 2 ^ 53 by decide, ← Nat.pow_add, show 53 + (m.log2 - 52) = m.log2 + 1 by omega]
        rw [this]; exact hself
    refine ⟨_, ?_, ?_, rfl⟩
    · rw [dBin, dInf]; omega
    · rw [dBin, dInf]; omega
  obtain ⟨rung, k0, k1, k2⟩ := key
  rw [k2, read_word s rung (Nat.le_of_lt k1), if_neg (by omega), if_pos k1]
  exact ⟨_, _, by rw [dBin]; omega, rfl⟩

theorem part_some {b m : Int} (hb0 : 0 ≤ b) (hb1 : b < 9223372036854775808) (hm0 : m ≠ 0) (hm1 : m < 9223372036854775808) (hm2 : -9223372036854775808 < m) : ∃ r, partBits b m = some r ∧ double.order r r = some .eq := by
  obtain ⟨q, e, hq, hy⟩ := near_int (decide (m < 0)) m.natAbs (by omega) (by omega)
  have hx : ∃ s p i, double.read (double.nearest (decide (b < 0)) b.natAbs 0) = .number s p i := by
    by_cases h : b = 0
    · subst h; exact ⟨false, 0, double.leastPlace, by decide⟩
    · obtain ⟨q, e, _, h⟩ := near_int (decide (b < 0)) b.natAbs (by omega) (by omega)
      exact ⟨_, _, _, h⟩
  obtain ⟨s, p, i, hx⟩ := hx
  have hq' : ¬ q = 0 := by omega
  have hd : partBits b m = some (double.write (.number (s ^^ decide (m < 0)) (2 * ((p <<< (double.fractionBits + 2 + q.log2 - p.log2)) / q) + ((p <<< (double.fractionBits + 2 + q.log2 - p.log2)) % q != 0).toNat) (i - e - (double.fractionBits + 2 + q.log2 - p.log2 : Nat) - 1))) := by
    show double.div (double.nearest (decide (b < 0)) b.natAbs 0) (double.nearest (decide (m < 0)) m.natAbs 0) = _
    unfold Format.div
    rw [hx, hy]
    simp only [Datum.quotient]
    rw [if_neg hq']
    rfl
  refine ⟨_, hd, ?_⟩
  obtain ⟨rung, h1, h2⟩ := near_word (s ^^ decide (m < 0)) (2 * ((p <<< (double.fractionBits + 2 + q.log2 - p.log2)) / q) + ((p <<< (double.fractionBits + 2 + q.log2 - p.log2)) % q != 0).toNat) (i - e - (double.fractionBits + 2 + q.log2 - p.log2 : Nat) - 1)
  show double.order (double.nearest _ _ _) (double.nearest _ _ _) = _
  rw [h2]
  exact order_word _ _ h1
end Go.Proofs.Ytenfikfgliljmaa.LA
