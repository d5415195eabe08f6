/- The earliest deadline first, tick by tick, over plain numbers: no job of it is late where the needs want no more than the major frame together. No program, no memory. -/
namespace Go.Proofs.Ytenfikfgliljmaa.LT

/-- The first of those that have something left and are due first. -/
def best (l d : Nat → Nat) : Nat → Option Nat
  | 0 => none
  | n + 1 => match best l d n with
    | none => if 0 < l n then some n else none
    | some b => if 0 < l n ∧ d n < d b then some n else some b

theorem best_none {l d : Nat → Nat} : ∀ {n : Nat}, best l d n = none → ∀ i, i < n → l i = 0
  | 0, _, i, hi => absurd hi (Nat.not_lt_zero i)
  | n + 1, h, i, hi => by
    simp only [best] at h
    split at h
    · rename_i hb
      split at h
      · cases h
      · by_cases e : i = n
        · subst e; omega
        · exact best_none hb i (by omega)
    · split at h <;> cases h

theorem best_some {l d : Nat → Nat} : ∀ {n b : Nat}, best l d n = some b → b < n ∧ 0 < l b ∧ ∀ i, i < n → 0 < l i → d b < d i ∨ (d b = d i ∧ b ≤ i)
  | 0, b, h => by simp [best] at h
  | n + 1, b, h => by
    simp only [best] at h
    split at h
    · rename_i hb
      split at h
      · cases h
        refine ⟨by omega, by assumption, fun i hi hl => ?_⟩
        by_cases e : i = n
        · subst e; omega
        · have := best_none hb i (by omega); omega
      · cases h
    · rename_i b' hb
      obtain ⟨h1, h2, h3⟩ := best_some hb
      split at h
      · rename_i hc
        cases h
        refine ⟨by omega, hc.1, fun i hi hl => ?_⟩
        by_cases e : i = n
        · subst e; omega
        · have := h3 i (by omega) hl; omega
      · rename_i hc
        cases h
        refine ⟨by omega, h2, fun i hi hl => ?_⟩
        by_cases e : i = n
        · subst e; omega
        · exact h3 i (by omega) hl

theorem best_eq {l d : Nat → Nat} {n b : Nat} (hb : b < n) (hl : 0 < l b) (h : ∀ i, i < n → 0 < l i → d b < d i ∨ (d b = d i ∧ b ≤ i)) : best l d n = some b := by
  cases hq : best l d n with
  | none => have := best_none hq b hb; omega
  | some c =>
    obtain ⟨h1, h2, h3⟩ := best_some hq
    have a := h3 b hb hl
    have b' := h c h1 h2
    congr 1; omega

theorem best_eq_none {l d : Nat → Nat} {n : Nat} (h : ∀ i, i < n → l i = 0) : best l d n = none := by
  cases hq : best l d n with
  | none => rfl
  | some c => have := best_some hq; have := h c this.1; omega

section
variable (P B : Nat → Nat) (n : Nat)

/-- When the job of the need i, that is released by t, is due. -/
def due (i t : Nat) : Nat := (t / P i + 1) * P i

/-- What is left of each need's job at the tick t, as it begins. -/
def lf : Nat → Nat → Nat
  | 0, i => B i
  | t + 1, i => if (t + 1) % P i = 0 then B i else lf t i - (if best (lf t) (fun i => due P i t) n = some i then 1 else 0)

/-- Who runs at the tick t. -/
def who (t : Nat) : Option Nat := best (lf P B n t) (fun i => due P i t) n

/-- What was left ahead of the tick t, before anything is released. -/
def pre : Nat → Nat → Nat
  | 0, _ => 0
  | t + 1, i => lf P B n t i - (if who P B n t = some i then 1 else 0)

theorem lf_succ (t i : Nat) : lf P B n (t + 1) i = if (t + 1) % P i = 0 then B i else pre P B n (t + 1) i := rfl
theorem lf_eq (t i : Nat) : lf P B n t i = if t % P i = 0 then B i else pre P B n t i := by
  cases t with
  | zero => simp [lf]
  | succ t => rfl

/-- How many ticks of those from s on the need i runs, m ticks long. -/
def cnt (s i : Nat) : Nat → Nat
  | 0 => 0
  | m + 1 => cnt s i m + (if who P B n (s + m) = some i then 1 else 0)

/-- A sum. -/
def sumN (f : Nat → Nat) : Nat → Nat
  | 0 => 0
  | k + 1 => sumN f k + f k

theorem sumN_le {f g : Nat → Nat} : ∀ {k : Nat}, (∀ i, i < k → f i ≤ g i) → sumN f k ≤ sumN g k
  | 0, _ => Nat.le_refl _
  | k + 1, h => Nat.add_le_add (sumN_le fun i hi => h i (by omega)) (h k (by omega))
theorem sumN_lt {f g : Nat → Nat} {j c : Nat} : ∀ {k : Nat}, (∀ i, i < k → f i ≤ g i) → j < k → f j + c ≤ g j → sumN f k + c ≤ sumN g k
  | 0, _, hj, _ => absurd hj (Nat.not_lt_zero _)
  | k + 1, h, hj, hc => by
    simp only [sumN]
    by_cases e : j = k
    · subst e
      have := sumN_le (f := f) (g := g) (k := j) fun i hi => h i (by omega)
      omega
    · have := sumN_lt (k := k) (fun i hi => h i (by omega)) (show j < k by omega) hc
      have := h k (by omega)
      omega
theorem sumN_mul (f : Nat → Nat) (c : Nat) : ∀ k, sumN (fun i => f i * c) k = sumN f k * c
  | 0 => by simp [sumN]
  | k + 1 => by simp only [sumN, sumN_mul f c k, Nat.add_mul]
theorem sumN_add (f g : Nat → Nat) : ∀ k, sumN (fun i => f i + g i) k = sumN f k + sumN g k
  | 0 => rfl
  | k + 1 => by simp only [sumN, sumN_add f g k]; omega
theorem sumN_congr {f g : Nat → Nat} : ∀ {k : Nat}, (∀ i, i < k → f i = g i) → sumN f k = sumN g k
  | 0, _ => rfl
  | k + 1, h => by simp only [sumN]; rw [sumN_congr fun i hi => h i (by omega), h k (by omega)]
theorem sumN_one (b : Nat) : ∀ k, sumN (fun i => if some b = some i then 1 else 0) k = if b < k then 1 else 0
  | 0 => by simp [sumN]
  | k + 1 => by
    rw [sumN, sumN_one b k]
    simp only [Option.some.injEq]
    by_cases h : b < k
    · rw [if_pos h, if_neg (by omega), if_pos (by omega)]
    · by_cases e : b = k
      · rw [if_neg h, if_pos e, if_pos (by omega)]
      · rw [if_neg h, if_neg e, if_neg (by omega)]
theorem sumN_zero : ∀ k, sumN (fun _ => 0) k = 0
  | 0 => rfl
  | k + 1 => by simp only [sumN, sumN_zero k]

variable {P B n}

theorem due_of_mul {i t : Nat} (h : t % P i = 0) : due P i t = t + P i := by
  unfold due
  have := Nat.div_add_mod t (P i)
  rw [h, Nat.add_zero] at this
  rw [Nat.add_mul, Nat.one_mul, Nat.mul_comm, this]

theorem div_succ_of_not {t p : Nat} (hp : 0 < p) (h : (t + 1) % p ≠ 0) : (t + 1) / p = t / p := by
  rw [Nat.succ_div, if_neg (fun hd => h (Nat.mod_eq_zero_of_dvd hd)), Nat.add_zero]
theorem due_same {i t : Nat} (hp : 0 < P i) (h : (t + 1) % P i ≠ 0) : due P i (t + 1) = due P i t := by
  unfold due; rw [div_succ_of_not hp h]

theorem due_ahead {i t : Nat} (h : (t + 1) % P i = 0) (hp : 0 < P i) : due P i t = t + 1 := by
  unfold due
  have h1 : (t + 1) / P i = t / P i + 1 := by rw [Nat.succ_div, if_pos (Nat.dvd_of_mod_eq_zero h)]
  have := Nat.div_add_mod (t + 1) (P i)
  rw [h, Nat.add_zero, h1, Nat.mul_comm] at this
  exact this

theorem lt_due {i t : Nat} (hp : 0 < P i) : t < due P i t := by
  unfold due
  have := Nat.div_add_mod t (P i)
  have := Nat.mod_lt t hp
  rw [Nat.add_mul, Nat.one_mul, Nat.mul_comm]; omega

/-- What a tick does. -/
theorem pre_add {t i : Nat} : pre P B n (t + 1) i + (if who P B n t = some i then 1 else 0) = lf P B n t i := by
  unfold pre
  by_cases h : who P B n t = some i
  · have := (best_some h).2.1
    simp only [if_pos h]; omega
  · simp only [if_neg h]; omega

variable (P B n) in
/-- A tick at which a job runs that is due by d. -/
def Busy (d u : Nat) : Prop := ∃ b, who P B n u = some b ∧ due P b u ≤ d

theorem busy_of {d u i : Nat} (hi : i < n) (hl : 0 < lf P B n u i) (hd : due P i u ≤ d) : Busy P B n d u := by
  cases hw : who P B n u with
  | none => have := best_none hw i hi; omega
  | some b =>
    obtain ⟨h1, h2, h3⟩ := best_some hw
    have := h3 i hi hl
    exact ⟨b, hw, by omega⟩

open Classical in
theorem stretch (Q : Nat → Prop) : ∀ d, ∃ s, s ≤ d ∧ (∀ u, s ≤ u → u < d → Q u) ∧ (s = 0 ∨ ¬ Q (s - 1))
  | 0 => ⟨0, Nat.le_refl _, fun u _ h => absurd h (Nat.not_lt_zero u), .inl rfl⟩
  | d + 1 => by
    by_cases h : Q d
    · obtain ⟨s, h1, h2, h3⟩ := stretch Q d
      refine ⟨s, by omega, fun u hu hd => ?_, h3⟩
      by_cases e : u = d
      · rw [e]; exact h
      · exact h2 u hu (by omega)
    · exact ⟨d + 1, Nat.le_refl _, fun u hu hd => by omega, .inr (by simpa using h)⟩

/-- The needs, and that they do not want too much together. -/
structure Fair (P B : Nat → Nat) (n M : Nat) : Prop where
  m : 0 < M
  p : ∀ i, i < n → 0 < P i
  div : ∀ i, i < n → M % P i = 0
  sum : sumN (fun i => B i * (M / P i)) n ≤ M

/-- What holds of a need, u ticks in, of a stretch from s on to d. -/
def Inv (P B : Nat → Nat) (n s d u i : Nat) : Prop :=
  (due P i u ≤ d → P i * (cnt P B n s i (u - s) + lf P B n u i) ≤ B i * (due P i u - s)) ∧ (¬ due P i u ≤ d → P i * cnt P B n s i (u - s) ≤ B i * (d - s))

theorem cnt_succ {s u i : Nat} (h : s ≤ u) : cnt P B n s i (u + 1 - s) = cnt P B n s i (u - s) + (if who P B n u = some i then 1 else 0) := by
  rw [show u + 1 - s = (u - s) + 1 by omega]
  simp only [cnt]
  rw [show s + (u - s) = u by omega]

theorem inv_begin {M s d : Nat} (F : Fair P B n M) (hs : s < d) (h0 : s = 0 ∨ ¬ Busy P B n d (s - 1)) (i : Nat) (hi : i < n) : Inv P B n s d s i := by
  have hp := F.p i hi
  have hc : cnt P B n s i (s - s) = 0 := by rw [Nat.sub_self]; rfl
  refine ⟨fun hd => ?_, fun _ => by rw [hc]; simp⟩
  rw [hc, Nat.zero_add]
  by_cases hm : s % P i = 0
  · rw [lf_eq, if_pos hm, due_of_mul hm, Nat.add_sub_cancel_left, Nat.mul_comm]
    exact Nat.le_refl _
  · cases s with
    | zero => simp at hm
    | succ s =>
      have hl : lf P B n s i = 0 := by
        rcases Nat.eq_zero_or_pos (lf P B n s i) with h | h
        · exact h
        · exfalso
          rcases h0 with h0 | h0
          · omega
          · exact h0 (by simpa using busy_of hi h (by rw [← due_same hp hm]; exact hd))
      rw [lf_eq, if_neg hm]
      have := pre_add (P := P) (B := B) (n := n) (t := s) (i := i)
      rw [show pre P B n (s + 1) i = 0 by omega]
      simp

theorem inv_step {M s d u : Nat} (F : Fair P B n M) (hs : s ≤ u) (hu : u + 1 < d) (hb : Busy P B n d u) (hmiss : ∀ i, i < n → (u + 1) % P i = 0 → pre P B n (u + 1) i = 0) (i : Nat) (hi : i < n) (h : Inv P B n s d u i) : Inv P B n s d (u + 1) i := by
  have hp := F.p i hi
  have ha := pre_add (P := P) (B := B) (n := n) (t := u) (i := i)
  obtain ⟨b, hw, hbd⟩ := hb
  by_cases hm : (u + 1) % P i = 0
  · have hd1 : due P i u = u + 1 := due_ahead hm hp
    have h1 := h.1 (by omega)
    have h0 := hmiss i hi hm
    rw [hd1] at h1
    have hc : cnt P B n s i (u + 1 - s) = cnt P B n s i (u - s) + lf P B n u i := by rw [cnt_succ hs]; omega
    rw [← hc] at h1
    refine ⟨fun hd => ?_, fun _ => ?_⟩
    · rw [lf_eq, if_pos hm, due_of_mul hm, Nat.mul_add, show u + 1 + P i - s = (u + 1 - s) + P i by omega, Nat.mul_add, Nat.mul_comm (P i) (B i)]
      omega
    · exact Nat.le_trans h1 (Nat.mul_le_mul_left _ (by omega))
  · have hd1 := due_same (P := P) hp hm
    rw [Inv, hd1, lf_eq, if_neg hm, cnt_succ hs]
    refine ⟨fun hd => ?_, fun hd => ?_⟩
    · have h1 := h.1 hd
      rw [show cnt P B n s i (u - s) + (if who P B n u = some i then 1 else 0) + pre P B n (u + 1) i = cnt P B n s i (u - s) + lf P B n u i by omega]
      exact h1
    · have h1 := h.2 hd
      rw [if_neg (fun e => by rw [hw] at e; cases e; exact hd hbd), Nat.add_zero]
      exact h1

theorem cnt_sum {s : Nat} : ∀ m, (∀ u, s ≤ u → u < s + m → ∃ b, who P B n u = some b) → sumN (fun i => cnt P B n s i m) n = m
  | 0, _ => sumN_zero n
  | m + 1, h => by
    simp only [cnt]
    rw [sumN_add, cnt_sum m fun u h1 h2 => h u h1 (by omega)]
    obtain ⟨b, hb⟩ := h (s + m) (by omega) (by omega)
    rw [hb, sumN_one, if_pos (best_some hb).1]

/-- No job is late. -/
theorem no_miss {M : Nat} (F : Fair P B n M) : ∀ t, t < M → ∀ i, i < n → (t + 1) % P i = 0 → pre P B n (t + 1) i = 0 := by
  intro t
  induction t using Nat.strongRecOn with
  | _ t ih =>
    intro ht k hk hkm
    rcases Nat.eq_zero_or_pos (pre P B n (t + 1) k) with h | hpos
    · exact h
    exfalso
    have hkp := F.p k hk
    have hkd : due P k t = t + 1 := due_ahead hkm hkp
    have hlk : 0 < lf P B n t k := by have := pre_add (P := P) (B := B) (n := n) (t := t) (i := k); omega
    obtain ⟨s, h1, h2, h3⟩ := stretch (Busy P B n (t + 1)) (t + 1)
    have hsd : s ≤ t := by
      rcases Nat.lt_or_ge t s with h | h
      · exfalso
        obtain rfl : s = t + 1 := by omega
        rcases h3 with h3 | h3
        · omega
        · exact h3 (by simpa using busy_of hk hlk (by omega))
      · exact h
    have hinv : ∀ m, s + m ≤ t → ∀ i, i < n → Inv P B n s (t + 1) (s + m) i := by
      intro m
      induction m with
      | zero => exact fun _ i hi => inv_begin F (by omega) h3 i hi
      | succ m ihm =>
        intro hm i hi
        exact inv_step F (by omega) (by omega) (h2 (s + m) (by omega) (by omega)) (fun j hj hjm => ih (s + m) (by omega) (by omega) j hj hjm) i hi (ihm (by omega) i hi)
    have hlast := hinv (t - s) (by omega)
    rw [show s + (t - s) = t by omega] at hlast
    obtain ⟨b, hw, hbd⟩ := h2 t hsd (by omega)
    have hx : ∀ i, i < n → P i * cnt P B n s i (t + 1 - s) ≤ B i * (t + 1 - s) := by
      intro i hi
      rw [cnt_succ hsd]
      by_cases hd : due P i t ≤ t + 1
      · refine Nat.le_trans ?_ (Nat.le_trans ((hlast i hi).1 hd) (Nat.mul_le_mul_left _ (by omega)))
        have := pre_add (P := P) (B := B) (n := n) (t := t) (i := i)
        exact Nat.mul_le_mul_left _ (by omega)
      · rw [if_neg (fun e => by rw [hw] at e; cases e; exact hd hbd), Nat.add_zero]
        exact (hlast i hi).2 hd
    have hxk : P k * (cnt P B n s k (t + 1 - s) + 1) ≤ B k * (t + 1 - s) := by
      rw [cnt_succ hsd]
      have h4 := (hlast k hk).1 (by omega)
      rw [hkd] at h4
      refine Nat.le_trans (Nat.mul_le_mul_left _ ?_) h4
      have := pre_add (P := P) (B := B) (n := n) (t := t) (i := k)
      omega
    have hsum := cnt_sum (P := P) (B := B) (n := n) (s := s) (t + 1 - s) (fun u hu hd => by obtain ⟨b, hb, _⟩ := h2 u hu (by omega); exact ⟨b, hb⟩)
    have key : sumN (fun i => cnt P B n s i (t + 1 - s) * M) n + M ≤ sumN (fun i => B i * (M / P i) * (t + 1 - s)) n := by
      refine sumN_lt (j := k) (fun i hi => ?_) hk ?_
      · have hm : M = P i * (M / P i) := by have := Nat.div_add_mod M (P i); rw [F.div i hi] at this; omega
        calc cnt P B n s i (t + 1 - s) * M = (P i * cnt P B n s i (t + 1 - s)) * (M / P i) := by
              conv => lhs; rw [hm]
              rw [← Nat.mul_assoc, Nat.mul_comm (cnt P B n s i (t + 1 - s)) (P i)]
          _ ≤ (B i * (t + 1 - s)) * (M / P i) := Nat.mul_le_mul_right _ (hx i hi)
          _ = B i * (M / P i) * (t + 1 - s) := by rw [Nat.mul_assoc, Nat.mul_comm (t + 1 - s), ← Nat.mul_assoc]
      · have hm : M = P k * (M / P k) := by have := Nat.div_add_mod M (P k); rw [F.div k hk] at this; omega
        calc cnt P B n s k (t + 1 - s) * M + M = (cnt P B n s k (t + 1 - s) + 1) * M := by rw [Nat.add_mul, Nat.one_mul]
          _ = (P k * (cnt P B n s k (t + 1 - s) + 1)) * (M / P k) := by
              conv => lhs; rw [hm]
              rw [← Nat.mul_assoc, Nat.mul_comm (cnt P B n s k (t + 1 - s) + 1) (P k)]
          _ ≤ (B k * (t + 1 - s)) * (M / P k) := Nat.mul_le_mul_right _ hxk
          _ = B k * (M / P k) * (t + 1 - s) := by rw [Nat.mul_assoc, Nat.mul_comm (t + 1 - s), ← Nat.mul_assoc]
    rw [sumN_mul, sumN_mul, hsum] at key
    have h5 := Nat.mul_le_mul_right (t + 1 - s) F.sum
    rw [Nat.mul_comm M (t + 1 - s)] at h5
    have := F.m
    omega
end
end Go.Proofs.Ytenfikfgliljmaa.LT
