/- Where a schedule gives each need its budget in each period, Flatten does not refuse for wanting too much; plain. -/
import Derived.Test.YtenfikfgliljmaaMB
namespace Go.Proofs.Ytenfikfgliljmaa.LT
section
variable (P B : Nat → Nat) (h : Nat → Nat → Bool)
/-- How often the need has run in its period, as the tick t begins. -/
def cw : Nat → Nat → Nat
  | 0, _ => 0
  | t + 1, i => if (t + 1) % P i = 0 then 0 else cw t i + (if h t i = true then 1 else 0)
def tot (i : Nat) : Nat → Nat
  | 0 => 0
  | t + 1 => tot i t + (if h t i = true then 1 else 0)
/-- What the law's loop has seen of the need i at the tick t. -/
def Seen (M t i : Nat) : Prop := 1 ≤ P i ∧ P i ≤ M ∧ M % P i = 0 ∧ 1 ≤ B i ∧ B i ≤ P i ∧ ((t + 1) % P i = 0 → B i ≤ cw P h t i + (if h t i = true then 1 else 0))
variable {P B h}
theorem tot_ge {M i : Nat} : ∀ t, (∀ u, u < t → Seen P B h M u i) → B i * (t / P i) + cw P h t i ≤ tot h i t
  | 0, _ => by simp [cw, tot]
  | t + 1, hs => by
    have ih := tot_ge t fun u hu => hs u (by omega)
    obtain ⟨p1, _, _, _, _, hb⟩ := hs t (by omega)
    by_cases e : (t + 1) % P i = 0
    · have h1 : (t + 1) / P i = t / P i + 1 := by rw [Nat.succ_div, if_pos (Nat.dvd_of_mod_eq_zero e)]
      have h2 := hb e
      rw [h1, cw, if_pos e, tot, Nat.mul_add, Nat.mul_one]
      omega
    · have h1 : (t + 1) / P i = t / P i := by rw [Nat.succ_div, if_neg (fun hd => e (Nat.mod_eq_zero_of_dvd hd)), Nat.add_zero]
      rw [h1, cw, if_neg e, tot]
      omega
theorem tot_sum {n : Nat} (ho : ∀ t i j, h t i = true → h t j = true → i = j) : ∀ t, sumN (fun i => tot h i t) n ≤ t
  | 0 => by simp only [tot]; rw [sumN_zero]; omega
  | t + 1 => by
    have ih := tot_sum (n := n) ho t
    have e : sumN (fun i => tot h i (t + 1)) n = sumN (fun i => tot h i t) n + sumN (fun i => if h t i = true then 1 else 0) n := sumN_add _ _ n
    have one : ∀ k, sumN (fun i => if h t i = true then 1 else 0) k ≤ 1 := fun k => by
      by_cases hx : ∃ b, h t b = true
      · obtain ⟨b, hb⟩ := hx
        have : sumN (fun i => if h t i = true then 1 else 0) k = sumN (fun i => if some b = some i then 1 else 0) k := sumN_congr fun i _ => by
          by_cases e : h t i = true
          · have := ho t b i hb e; subst this; rw [if_pos e, if_pos rfl]
          · rw [if_neg e, if_neg (fun q => e (by cases q; exact hb))]
        rw [this, sumN_one]; split <;> omega
      · have : sumN (fun i => if h t i = true then 1 else 0) k = sumN (fun _ => 0) k := sumN_congr fun i _ => by rw [if_neg (fun e => hx ⟨i, e⟩)]
        rw [this, sumN_zero]; omega
    have := one n
    omega
theorem fits_of_seen {M n : Nat} (ho : ∀ t i j, h t i = true → h t j = true → i = j) (hs : ∀ t, t < M → ∀ i, i < n → Seen P B h M t i) : sumN (fun i => B i * (M / P i)) n ≤ M :=
  Nat.le_trans (sumN_le fun i hi => Nat.le_trans (Nat.le_add_right _ _) (tot_ge M fun u hu => hs u hu i hi)) (tot_sum ho M)
end
end Go.Proofs.Ytenfikfgliljmaa.LT
namespace Go.Proofs.Ytenfikfgliljmaa.LA
open Go.Proofs.Ytenfikfgliljmaa.LT
/-- What the runs want together decides, where each is right. -/
theorem check_all {major : Int} {needs : Bool} : ∀ {xs : List Need} {i s : Int}, (∀ x, x ∈ xs → wrongC major x needs = 0) → (∀ x, x ∈ xs → 0 ≤ wantsC major x needs) → s ≤ major →
    (s + sumW major needs xs ≤ major → checkL major needs xs i s = .ok (s + sumW major needs xs)) ∧ (major < s + sumW major needs xs → ∃ j : Int, i ≤ j ∧ j < i + xs.length ∧ checkL major needs xs i s = .error (j, 93))
  | [], i, s, _, _, hs => by simp only [sumW, checkL, Int.add_zero, List.length_nil]; exact ⟨fun _ => by trivial, fun h => by omega⟩
  | x :: r, i, s, hw, hp, hs => by
    have w0 := hw x List.mem_cons_self
    have p0 := hp x List.mem_cons_self
    have rp : 0 ≤ sumW major needs r := sumW_nonneg fun y hy => hp y (List.mem_cons_of_mem _ hy)
    simp only [sumW, checkL, List.length_cons]
    rw [if_neg (by omega)]
    by_cases hg : major < s + wantsC major x needs
    · rw [if_pos hg]
      exact ⟨fun h => by omega, fun _ => ⟨i, by omega, by omega, rfl⟩⟩
    · rw [if_neg hg]
      have ih := check_all (i := i + 1) (s := s + wantsC major x needs) (fun y hy => hw y (List.mem_cons_of_mem _ hy)) (fun y hy => hp y (List.mem_cons_of_mem _ hy)) (by omega)
      rw [Int.add_assoc] at ih
      refine ⟨ih.1, fun h => ?_⟩
      obtain ⟨j, h1, h2, h3⟩ := ih.2 h
      exact ⟨j, by omega, by omega, h3⟩
theorem right_wrong {M : Nat} {x : Need} (h1 : 1 ≤ x.budget) (h2 : x.budget ≤ x.period) (h3 : x.period ≤ M) (h4 : (M : Int) % x.period = 0) (h5 : x.subj.toList ≠ []) : wrongC (M : Int) x true = 0 := by
  unfold wrongC
  rw [if_neg (by omega), if_neg (by simp), if_neg h5, if_neg (by omega)]
/-- The numbers of needs are right. -/
def NumsOk (M : Nat) (x : Need) : Prop := 1 ≤ x.budget ∧ x.budget ≤ x.period ∧ x.period ≤ M ∧ (M : Int) % x.period = 0
theorem wants_nonneg {M : Nat} {x : Need} (h : NumsOk M x) : 0 ≤ wantsC (M : Int) x true := by
  unfold wantsC; rw [if_pos rfl]
  exact Int.mul_nonneg (by have := h.1; omega) (Int.ediv_nonneg (by omega) (by have := h.1; have := h.2.1; omega))
theorem flat_nums {M : Nat} {xs : List Need} (hm0 : 1 ≤ M) (hm1 : M ≤ 65536) (hok : ∀ x, x ∈ xs → NumsOk M x) (hs : ∀ x, x ∈ xs → x.subj.toList ≠ []) :
    (sumW M true xs ≤ M → flatL M xs true = (if 4096 < (rowOf (whoF xs) M).length then ([], -1, 4) else (rowOf (whoF xs) M, 0, 0))) ∧
    ((M : Int) < sumW M true xs → ∃ j : Int, 0 ≤ j ∧ j < xs.length ∧ flatL M xs true = ([], j, 93)) := by
  have hc := check_all (major := (M : Int)) (needs := true) (xs := xs) (i := 0) (s := 0) (fun x hx => by obtain ⟨a, b, c, d⟩ := hok x hx; exact right_wrong a b c d (hs x hx)) (fun x hx => wants_nonneg (hok x hx)) (by omega)
  rw [Int.zero_add, Int.zero_add] at hc
  constructor
  · intro h
    unfold flatL
    rw [if_neg (by omega), hc.1 h]
    have : flatRow M xs true = rowOf (whoF xs) M := by
      unfold flatRow fillRow
      simp only [if_true, Int.toNat_natCast]
      rw [endL_rowOf, if_neg (by omega)]
    simp only [flatE, this]
  · intro h
    obtain ⟨j, h1, h2, h3⟩ := hc.2 h
    refine ⟨j, h1, h2, ?_⟩
    unfold flatL
    rw [if_neg (by omega), h3]; rfl
theorem rowOf_ne (f : Nat → ByteArray) (t : Nat) (h : 0 < t) : 0 < (rowOf f t).length := by
  obtain ⟨s, rfl⟩ : ∃ s, t = s + 1 := ⟨t - 1, by omega⟩
  rw [rowOf]
  rcases list_cases (rowOf f s) with e | ⟨zs, y, e⟩
  · rw [e, runL_nil]; simp
  · rw [e, runL_concat]; split <;> simp
theorem nums_nat {M : Nat} {xs : List Need} (hok : ∀ x, x ∈ xs → NumsOk M x) : ∀ i, i < xs.length → (xs.getD i .zero).period = (Pf xs i : Int) ∧ (xs.getD i .zero).budget = (Bf xs i : Int) := fun i hi => by
  have hm : xs.getD i .zero ∈ xs := by rw [show xs.getD i .zero = xs[i] by simp [List.getD, hi]]; exact List.getElem_mem hi
  obtain ⟨a, b, _, _⟩ := hok _ hm
  unfold Pf Bf
  omega
/-- The law of LanesBest. -/
theorem flat_best {M : Nat} {xs : List Need} {h : Nat → Nat → Bool} (hm0 : 1 ≤ M) (hm1 : M ≤ 65536) (hok : ∀ x, x ∈ xs → NumsOk M x) (hsj : ∀ x, x ∈ xs → x.subj.toList ≠ [])
    (ho : ∀ t i j, h t i = true → h t j = true → i = j) (hs : ∀ t, t < M → ∀ i, i < xs.length → Seen (Pf xs) (Bf xs) h M t i) :
    ((flatL M xs true).2.2 = 0 ∧ 0 < (flatL M xs true).1.length) ∨ (flatL M xs true).2.2 = 4 := by
  have h1 := fits_of_seen ho hs
  have h2 := sumN_sumW M xs (nums_nat hok) xs.length (Nat.le_refl _)
  rw [List.take_length] at h2
  have h3 := (flat_nums hm0 hm1 hok hsj).1 (by omega)
  rw [h3]
  split
  · exact .inr rfl
  · exact .inl ⟨rfl, rowOf_ne _ _ (by omega)⟩
end Go.Proofs.Ytenfikfgliljmaa.LA
