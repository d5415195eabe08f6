/- Binary heaps of jobs, as plain lists: what container/heap's up and down do to the order. -/
import Derived.Test.YtenfikfgliljmaaA7
namespace Go.Proofs.Ytenfikfgliljmaa.LA

/-- x is not behind y. -/
def leJ (x y : Job) : Prop := lessJ y x = false

theorem leJ_iff (x y : Job) : leJ x y ↔ x.due < y.due ∨ (x.due = y.due ∧ x.need ≤ y.need) := by
  simp only [leJ, lessJ, lessB, Bool.or_eq_false_iff, decide_eq_false_iff_not, Bool.and_eq_false_iff]; omega
theorem lessJ_iff (x y : Job) : lessJ x y = true ↔ x.due < y.due ∨ (x.due = y.due ∧ x.need < y.need) := by
  simp only [lessJ, lessB, Bool.or_eq_true, decide_eq_true_eq, Bool.and_eq_true]
theorem leJ_refl (x : Job) : leJ x x := (leJ_iff x x).2 (by omega)
theorem leJ_trans {x y z : Job} (h : leJ x y) (k : leJ y z) : leJ x z := by rw [leJ_iff] at *; omega
theorem leJ_of_less {x y : Job} (h : lessJ x y = true) : leJ x y := by rw [leJ_iff]; rw [lessJ_iff] at h; omega

abbrev at' (l : List Job) (i : Nat) : Job := l.getD i .zero

theorem at_set (l : List Job) (i j : Nat) (x : Job) (hi : i < l.length) : at' (l.set i x) j = if j = i then x else at' l j := by
  simp only [at', List.getD_eq_getElem?_getD, List.getElem?_set]
  by_cases h : j = i
  · subst h; simp [hi]
  · rw [if_neg h, if_neg (Ne.symm h)]

theorem at_swap (l : List Job) (i j k : Nat) (hi : i < l.length) (hj : j < l.length) : at' (swapL l i j) k = if k = j then at' l i else if k = i then at' l j else at' l k := by
  unfold swapL
  rw [at_set _ _ _ _ (by simpa using hj), at_set _ _ _ _ hi]

theorem set_perm {α : Type} : ∀ (l : List α) (i : Nat) (x : α) (h : i < l.length), (l[i] :: l.set i x).Perm (x :: l)
  | a :: l, 0, x, _ => List.Perm.swap x a l
  | a :: l, i + 1, x, h => by
    have h' : i < l.length := by simpa using h
    have ih := set_perm l i x h'
    simp only [List.getElem_cons_succ, List.set_cons_succ]
    exact ((List.Perm.swap a l[i] _).trans (ih.cons a)).trans (List.Perm.swap x a l)

theorem swap_perm (l : List Job) (i j : Nat) (hi : i < l.length) (hj : j < l.length) : (swapL l i j).Perm l := by
  have e1 : l.getD i .zero = l[i] := by simp [List.getD, hi]
  have e2 : l.getD j .zero = l[j] := by simp [List.getD, hj]
  unfold swapL
  rw [e1, e2]
  have h1 := set_perm l i l[j] hi
  have hj' : j < (l.set i l[j]).length := by simpa using hj
  have h2 := set_perm (l.set i l[j]) j l[i] hj'
  have e3 : (l.set i l[j])[j] = l[j] := by
    rw [List.getElem_set]; split
    · rfl
    · rfl
  rw [e3] at h2
  exact ((h2.trans h1).cons_inv)

/-- Each kid of the first n is not ahead of its parent. -/
def Heap (l : List Job) (n : Nat) : Prop := ∀ i, 0 < i → i < n → leJ (at' l ((i - 1) / 2)) (at' l i)

theorem Heap.root {l : List Job} {n : Nat} (h : Heap l n) : ∀ i, i < n → leJ (at' l 0) (at' l i) := by
  intro i
  induction i using Nat.strongRecOn with
  | _ i ih =>
    intro hi
    by_cases h0 : i = 0
    · subst h0; exact leJ_refl _
    · exact leJ_trans (ih ((i - 1) / 2) (by omega) (by omega)) (h i (by omega) hi)

/-- A heap but for the kid j, which may be ahead of its parent. -/
def HeapUp (l : List Job) (n j : Nat) : Prop :=
  (∀ i, 0 < i → i < n → i ≠ j → leJ (at' l ((i - 1) / 2)) (at' l i)) ∧ (∀ c, 0 < c → c < n → (c - 1) / 2 = j → 0 < j → leJ (at' l ((j - 1) / 2)) (at' l c))

theorem up_heap (n : Nat) : ∀ (j : Nat) (l : List Job), j < n → n ≤ l.length → HeapUp l n j → Heap (upL l j) n := by
  intro j
  induction j using Nat.strongRecOn with
  | _ j ih =>
    intro l hj hn h
    by_cases h0 : j = 0
    · subst h0; rw [upL_zero]
      intro i h1 h2; exact h.1 i h1 h2 (by omega)
    · cases hl : lessJ (l.getD j .zero) (l.getD ((j - 1) / 2) .zero) with
      | false =>
        rw [upL_no l j hl]
        intro i h1 h2
        by_cases e : i = j
        · subst e; exact hl
        · exact h.1 i h1 h2 e
      | true =>
        rw [upL_yes l j h0 hl]
        have hp : (j - 1) / 2 < j := by omega
        have lt := leJ_of_less hl
        refine ih _ hp _ (by omega) (by rw [swapL_length]; exact hn) ⟨fun i h1 h2 h3 => ?_, fun c h1 h2 h3 h4 => ?_⟩
        · rw [at_swap _ _ _ _ (by omega) (by omega), at_swap _ _ _ _ (by omega) (by omega)]
          by_cases e : i = j
          · subst e
            rw [if_pos rfl, if_neg (by omega), if_pos rfl]
            exact lt
          · rw [if_neg e, if_neg h3]
            by_cases e2 : (i - 1) / 2 = j
            · rw [if_pos e2]
              exact h.2 i h1 h2 e2 (by omega)
            · rw [if_neg e2]
              by_cases e3 : (i - 1) / 2 = (j - 1) / 2
              · rw [if_pos e3]
                have := h.1 i h1 h2 e
                rw [e3] at this
                exact leJ_trans lt this
              · rw [if_neg e3]
                exact h.1 i h1 h2 e
        · have hc := h.1 ((j - 1) / 2) (by omega) (by omega) (by omega)
          rw [at_swap _ _ _ _ (by omega) (by omega), at_swap _ _ _ _ (by omega) (by omega)]
          rw [if_neg (show ¬ ((j - 1) / 2 - 1) / 2 = j by omega), if_neg (show ¬ ((j - 1) / 2 - 1) / 2 = (j - 1) / 2 by omega)]
          by_cases e : c = j
          · subst e
            rw [if_pos rfl]; exact hc
          · rw [if_neg e, if_neg (by omega)]
            have := h.1 c h1 h2 e
            rw [h3] at this
            exact leJ_trans hc this

theorem up_perm : ∀ (j : Nat) (l : List Job), j < l.length → (upL l j).Perm l := by
  intro j
  induction j using Nat.strongRecOn with
  | _ j ih =>
    intro l hj
    by_cases h0 : j = 0
    · subst h0; rw [upL_zero]
    · cases hl : lessJ (l.getD j .zero) (l.getD ((j - 1) / 2) .zero) with
      | false => rw [upL_no l j hl]
      | true =>
        rw [upL_yes l j h0 hl]
        exact (ih _ (by omega) _ (by rw [swapL_length]; omega)).trans (swap_perm l _ _ (by omega) hj)

/-- A push keeps a heap. -/
theorem push_heap (l : List Job) (x : Job) (h : Heap l l.length) : Heap (upL (l ++ [x]) l.length) (l.length + 1) ∧ (upL (l ++ [x]) l.length).Perm (x :: l) := by
  have hl : (l ++ [x]).length = l.length + 1 := by simp
  have ha : ∀ i, i < l.length → at' (l ++ [x]) i = at' l i := fun i hi => by simp only [at', List.getD_eq_getElem?_getD, List.getElem?_append_left hi]
  refine ⟨up_heap (l.length + 1) l.length _ (by omega) (by omega) ⟨fun i h1 h2 h3 => ?_, fun c h1 h2 h3 _ => by omega⟩, ?_⟩
  · rw [ha i (by omega), ha _ (by omega)]
    exact h i h1 (by omega)
  · exact (up_perm l.length _ (by omega)).trans (List.perm_append_comm (l₁ := l) (l₂ := [x]))

/-- A heap but for i's kids. -/
def HeapDn (l : List Job) (n i : Nat) : Prop :=
  (∀ c, 0 < c → c < n → (c - 1) / 2 ≠ i → leJ (at' l ((c - 1) / 2)) (at' l c)) ∧ (∀ c, 0 < c → c < n → (c - 1) / 2 = i → 0 < i → leJ (at' l ((i - 1) / 2)) (at' l c))

theorem kid_props (l : List Job) (i n : Nat) (h : ¬ n ≤ 2 * i + 1) : kid l i n < n ∧ i < kid l i n ∧ (kid l i n - 1) / 2 = i ∧ ∀ c, 0 < c → c < n → (c - 1) / 2 = i → leJ (at' l (kid l i n)) (at' l c) := by
  unfold kid
  by_cases h2 : 2 * i + 2 < n ∧ lessJ (l.getD (2 * i + 2) .zero) (l.getD (2 * i + 1) .zero) = true
  · rw [if_pos h2]
    refine ⟨h2.1, by omega, by omega, fun c h3 h4 h5 => ?_⟩
    have : c = 2 * i + 1 ∨ c = 2 * i + 2 := by omega
    rcases this with rfl | rfl
    · exact leJ_of_less h2.2
    · exact leJ_refl _
  · rw [if_neg h2]
    refine ⟨by omega, by omega, by omega, fun c h3 h4 h5 => ?_⟩
    have : c = 2 * i + 1 ∨ c = 2 * i + 2 := by omega
    rcases this with rfl | rfl
    · exact leJ_refl _
    · have : ¬ lessJ (l.getD (2 * i + 2) .zero) (l.getD (2 * i + 1) .zero) = true := fun e => h2 ⟨h4, e⟩
      exact Bool.eq_false_iff.2 this

theorem down_heap (n : Nat) : ∀ (d i : Nat) (l : List Job), n - i ≤ d → n ≤ l.length → HeapDn l n i →
    Heap (downL l i n).1 n ∧ (downL l i n).1.Perm l ∧ ∀ k, n ≤ k → at' (downL l i n).1 k = at' l k := by
  intro d
  induction d with
  | zero =>
    intro i l hd hn h
    rw [downL_end l i n (by omega)]
    exact ⟨fun c h1 h2 => h.1 c h1 h2 (by omega), List.Perm.refl _, fun _ _ => rfl⟩
  | succ d ih =>
    intro i l hd hn h
    by_cases h0 : n ≤ 2 * i + 1
    · rw [downL_end l i n h0]
      exact ⟨fun c h1 h2 => h.1 c h1 h2 (by omega), List.Perm.refl _, fun _ _ => rfl⟩
    · obtain ⟨k1, k2, k3, k4⟩ := kid_props l i n h0
      cases hk : lessJ (l.getD (kid l i n) .zero) (l.getD i .zero) with
      | false =>
        rw [downL_no l i n h0 hk]
        refine ⟨fun c h1 h2 => ?_, List.Perm.refl _, fun _ _ => rfl⟩
        by_cases e : (c - 1) / 2 = i
        · rw [e]; exact leJ_trans hk (k4 c h1 h2 e)
        · exact h.1 c h1 h2 e
      | true =>
        rw [downL_yes l i n h0 hk]
        generalize hK : kid l i n = K at *
        have lt := leJ_of_less hk
        have hs : HeapDn (swapL l i K) n K := by
          refine ⟨fun c h1 h2 h3 => ?_, fun c h1 h2 h3 h4 => ?_⟩
          · rw [at_swap _ _ _ _ (by omega) (by omega), at_swap _ _ _ _ (by omega) (by omega)]
            rw [if_neg h3]
            by_cases e : c = K
            · subst e
              rw [if_pos k3, if_pos rfl]; exact lt
            · rw [if_neg e]
              by_cases e1 : c = i
              · subst e1
                rw [if_neg (by omega), if_pos rfl]
                exact h.2 K (by omega) k1 k3 h1
              · rw [if_neg e1]
                by_cases e2 : (c - 1) / 2 = i
                · rw [if_pos e2]; exact k4 c h1 h2 e2
                · rw [if_neg e2]; exact h.1 c h1 h2 e2
          · rw [k3]
            rw [at_swap _ _ _ _ (by omega) (by omega), at_swap _ _ _ _ (by omega) (by omega)]
            rw [if_neg (by omega), if_pos rfl, if_neg (by omega), if_neg (by omega)]
            have := h.1 c h1 h2 (by omega)
            rw [h3] at this
            exact this
        obtain ⟨a1, a2, a3⟩ := ih K (swapL l i K) (by omega) (by rw [swapL_length]; exact hn) hs
        refine ⟨a1, a2.trans (swap_perm l _ _ (by omega) (by omega)), fun k hk => ?_⟩
        rw [a3 k hk, at_swap _ _ _ _ (by omega) (by omega), if_neg (by omega), if_neg (by omega)]

/-- The head is replaced. -/
theorem fix_heap (l : List Job) (x : Job) (h : Heap l l.length) (h0 : 0 < l.length) :
    Heap (downL (l.set 0 x) 0 l.length).1 l.length ∧ (downL (l.set 0 x) 0 l.length).1.Perm (l.set 0 x) := by
  have := down_heap l.length l.length 0 (l.set 0 x) (by omega) (by simp) ⟨fun c h1 h2 h3 => by
    rw [at_set _ _ _ _ h0, at_set _ _ _ _ h0, if_neg h3, if_neg (by omega)]
    exact h c h1 h2, fun c _ _ _ h4 => by omega⟩
  exact ⟨this.1, this.2.1⟩

theorem at_getElem (l : List Job) (i : Nat) (h : i < l.length) : at' l i = l[i] := by simp [at', List.getD, h]

theorem at_dropLast (l : List Job) (i : Nat) (h : i + 1 < l.length) : at' l.dropLast i = at' l i := by
  rw [at_getElem _ _ (by simp; omega), at_getElem _ _ (by omega), List.getElem_dropLast]

/-- The head is removed. -/
theorem pop_heap (x : Job) (r : List Job) (h : Heap (x :: r) (x :: r).length) : Heap (popL (x :: r)).dropLast r.length ∧ (popL (x :: r)).dropLast.Perm r := by
  unfold popL
  simp only [List.length_cons, Nat.add_sub_cancel]
  have hl : (x :: r).length = r.length + 1 := rfl
  have hs : (swapL (x :: r) 0 r.length).length = r.length + 1 := by rw [swapL_length]; rfl
  obtain ⟨a1, a2, a3⟩ := down_heap r.length r.length 0 (swapL (x :: r) 0 r.length) (by omega) (by omega) ⟨fun c h1 h2 h3 => by
    rw [at_swap _ _ _ _ (by omega) (by omega), at_swap _ _ _ _ (by omega) (by omega), if_neg (by omega), if_neg h3, if_neg (by omega), if_neg (by omega)]
    exact h c h1 (by omega), fun c _ _ _ h4 => by omega⟩
  generalize hd : (downL (swapL (x :: r) 0 r.length) 0 r.length).1 = d at *
  have hdl : d.length = r.length + 1 := by rw [a2.length_eq, hs]
  have hlast : at' d r.length = x := by
    rw [a3 _ (Nat.le_refl _), at_swap _ _ _ _ (by omega) (by omega), if_pos rfl]; rfl
  have hne : d ≠ [] := by intro e; rw [e] at hdl; simp at hdl
  have hdc : d = d.dropLast ++ [x] := by
    have := (List.dropLast_concat_getLast hne).symm
    rw [show d.getLast hne = x by rw [← hlast, at_getElem _ _ (by omega), List.getLast_eq_getElem]; congr 1; omega] at this
    exact this
  refine ⟨fun c h1 h2 => ?_, ?_⟩
  · rw [at_dropLast _ _ (by omega), at_dropLast _ _ (by omega)]
    exact a1 c h1 h2
  · have p : d.Perm (x :: r) := a2.trans (swap_perm _ _ _ (by omega) (by omega))
    rw [hdc] at p
    exact ((List.perm_append_comm (l₁ := d.dropLast) (l₂ := [x])).symm.trans p).cons_inv
end Go.Proofs.Ytenfikfgliljmaa.LA
