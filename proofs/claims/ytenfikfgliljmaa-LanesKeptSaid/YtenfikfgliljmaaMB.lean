/- Plain laws: the earliest deadline first; what Flatten answers; ticks and rows. -/
import Derived.Test.YtenfikfgliljmaaMA
import Derived.Test.YtenfikfgliljmaaAB
/- What is wrong with a run, how much it wants; plain. -/
namespace Go.Proofs.Ytenfikfgliljmaa.LA
open Go.RowKit

def wrongC (major : Int) (x : Need) (needs : Bool) : Int :=
  if x.budget = 0 ∨ major < x.budget then 90
  else if needs = false then 0
  else if x.subj.toList = [] then 80
  else if x.period = 0 ∨ major < x.period ∨ major % x.period ≠ 0 ∨ x.period < x.budget then 91
  else 0

def wantsC (major : Int) (x : Need) (needs : Bool) : Int := if needs = true then x.budget * (major / x.period) else x.budget

/-- The numbers of a run are of their kinds. -/
structure Need.ok (x : Need) : Prop where
  b0 : 0 ≤ x.budget
  b1 : x.budget ≤ 18446744073709551615
  p0 : 0 ≤ x.period
  p1 : x.period ≤ 18446744073709551615

structure RightIn (major : Int) (x : Need) (needs : Bool) : Prop where
  le : x.budget ≤ major
  pos : 1 ≤ x.budget
  per : needs = true → x.subj.toList ≠ [] ∧ 1 ≤ x.period ∧ x.period ≤ major ∧ major % x.period = 0 ∧ x.budget ≤ x.period

theorem right_in {major : Int} {x : Need} {needs : Bool} (hx : x.ok) (h : wrongC major x needs = 0) : RightIn major x needs := by
  unfold wrongC at h
  have := hx.b0; have := hx.p0
  split at h
  · cases h
  · rename_i h1
    split at h
    · rename_i h2
      exact ⟨by omega, by omega, fun h => by rw [h2] at h; cases h⟩
    · split at h
      · cases h
      · rename_i h3
        split at h
        · cases h
        · rename_i h4
          exact ⟨by omega, by omega, fun _ => ⟨h3, by omega, by omega, by omega, by omega⟩⟩
end Go.Proofs.Ytenfikfgliljmaa.LA
/- The states that lanes.earliest goes through, as plain data; and what a proof about them must bring for the walk. -/
namespace Go.Proofs.Ytenfikfgliljmaa.LA
open Go.RowKit

structure St where
  now : Int
  row : List Slot
  wait : List Job
  next : List Job

/-- A need is released. -/
def innerSt (xs : List Need) (st : St) (x : Job) : St :=
  let p := (xs.getD x.need.toNat .zero).period
  { st with
    wait := upL (st.wait ++ [⟨x.need, st.now + p, (xs.getD x.need.toNat .zero).budget⟩]) st.wait.length
    next := (downL (st.next.set 0 ⟨x.need, x.due + p, x.left⟩) 0 st.next.length).1 }

/-- Until when nothing is released. -/
def untilOf (major : Int) (st : St) : Int := match st.next[0]? with
  | none => major
  | some x => min major x.due

/-- Time goes on. -/
def outerSt (xs : List Need) (major : Int) (st : St) : St := match st.wait[0]? with
  | none => { st with now := untilOf major st, row := runL st.row ⟨#[]⟩ (untilOf major st - st.now) }
  | some x =>
    let t := min x.left (untilOf major st - st.now)
    let wait1 := st.wait.set 0 ⟨x.need, x.due, x.left - t⟩
    { st with now := st.now + t, row := runL st.row (xs.getD x.need.toNat .zero).subj t, wait := if x.left - t = 0 then (popL wait1).dropLast else wait1 }

def initNext (n : Nat) : List Job := (List.range n).map fun (i : Nat) => (⟨(i : Int), 0, 0⟩ : Job)

structure JobOk (n : Nat) (x : Job) : Prop where
  n0 : 0 ≤ x.need
  n1 : x.need < n
  d0 : 0 ≤ x.due
  d1 : x.due ≤ 1000000
  l0 : 0 ≤ x.left
  l1 : x.left ≤ 1000000

structure Bd (n : Nat) (major : Int) (st : St) : Prop where
  t0 : 0 ≤ st.now
  t1 : st.now < major
  rl : st.row.length ≤ 1000000
  re : endL st.row = st.now
  wl : st.wait.length ≤ 1000000
  nl : st.next.length ≤ 1000000
  wj : ∀ x, x ∈ st.wait → JobOk n x
  nj : ∀ x, x ∈ st.next → JobOk n x
  wpos : ∀ x, st.wait[0]? = some x → 0 < x.left

structure Edf (xs : List Need) (major : Int) where
  G : St → Prop
  GI : St → Prop
  μ : St → Nat
  init : G ⟨0, [], [], initNext xs.length⟩
  enter : ∀ st, G st → st.now < major → GI st
  bd : ∀ st, GI st → Bd xs.length major st
  inner : ∀ st x, GI st → st.next[0]? = some x → x.due = st.now → GI (innerSt xs st x) ∧ μ (innerSt xs st x) < μ st
  outer : ∀ st, GI st → (∀ x, st.next[0]? = some x → x.due ≠ st.now) → G (outerSt xs major st) ∧ st.now < (outerSt xs major st).now

theorem initNext_length (n : Nat) : (initNext n).length = n := by simp [initNext]
theorem initNext_succ (n : Nat) : initNext (n + 1) = initNext n ++ [⟨(n : Int), 0, 0⟩] := by simp [initNext, List.range_succ]
theorem initNext_get (n i : Nat) (h : i < n) : (initNext n).getD i .zero = ⟨(i : Int), 0, 0⟩ := by
  simp [initNext, List.getD, h]
theorem upL_init (n : Nat) : upL (initNext n ++ [⟨(n : Int), 0, 0⟩]) n = initNext (n + 1) := by
  rw [← initNext_succ]
  by_cases h : n = 0
  · subst h; exact upL_zero _
  · refine upL_no _ _ ?_
    rw [initNext_get _ _ (by omega), initNext_get _ _ (by omega)]
    simp [lessJ, lessB]; omega
end Go.Proofs.Ytenfikfgliljmaa.LA
/- Binary heaps of jobs, as plain lists: what container/heap's up and down do to the order. -/
namespace Go.Proofs.Ytenfikfgliljmaa.LA

/-- x is not behind y. -/
def leJ (x y : Job) : Prop := lessJ y x = false

theorem leJ_iff (x y : Job) : leJ x y ↔ x.due < y.due ∨ (x.due = y.due ∧ x.need ≤ y.need) := by
  simp only [leJ, lessJ, lessB, Bool.or_eq_false_iff, decide_eq_false_iff_not, Bool.and_eq_false_iff]; omega
theorem lessJ_iff (x y : Job) : lessJ x y = true ↔ x.due < y.due ∨ (x.due = y.due ∧ x.need < y.need) := by
  simp only [lessJ, lessB, Bool.or_eq_true, decide_eq_true_eq, Bool.and_eq_true]
theorem leJ_refl (x : Job) : leJ x x := (leJ_iff x x).2 (by omega)
theorem leJ_trans {x y z : Job} (h : leJ x y) (k : leJ y z) : leJ x z := by rw [leJ_iff] at *; omega
theorem leJ_of_less {x y : Job} (h : lessJ x y = true) : leJ x y := by rw [leJ_iff]; rw [lessJ_iff] at h; omega

abbrev at' (l : List Job) (i : Nat) : Job := l.getD i .zero

theorem at_set (l : List Job) (i j : Nat) (x : Job) (hi : i < l.length) : at' (l.set i x) j = if j = i then x else at' l j := by
  simp only [at', List.getD_eq_getElem?_getD, List.getElem?_set]
  by_cases h : j = i
  · subst h; simp [hi]
  · rw [if_neg h, if_neg (Ne.symm h)]

theorem at_swap (l : List Job) (i j k : Nat) (hi : i < l.length) (hj : j < l.length) : at' (swapL l i j) k = if k = j then at' l i else if k = i then at' l j else at' l k := by
  unfold swapL
  rw [at_set _ _ _ _ (by simpa using hj), at_set _ _ _ _ hi]

theorem set_perm {α : Type} : ∀ (l : List α) (i : Nat) (x : α) (h : i < l.length), (l[i] :: l.set i x).Perm (x :: l)
  | a :: l, 0, x, _ => List.Perm.swap x a l
  | a :: l, i + 1, x, h => by
    have h' : i < l.length := by simpa using h
    have ih := set_perm l i x h'
    simp only [List.getElem_cons_succ, List.set_cons_succ]
    exact ((List.Perm.swap a l[i] _).trans (ih.cons a)).trans (List.Perm.swap x a l)

theorem swap_perm (l : List Job) (i j : Nat) (hi : i < l.length) (hj : j < l.length) : (swapL l i j).Perm l := by
  have e1 : l.getD i .zero = l[i] := by simp [List.getD, hi]
  have e2 : l.getD j .zero = l[j] := by simp [List.getD, hj]
  unfold swapL
  rw [e1, e2]
  have h1 := set_perm l i l[j] hi
  have hj' : j < (l.set i l[j]).length := by simpa using hj
  have h2 := set_perm (l.set i l[j]) j l[i] hj'
  have e3 : (l.set i l[j])[j] = l[j] := by
    rw [List.getElem_set]; split
    · rfl
    · rfl
  rw [e3] at h2
  exact ((h2.trans h1).cons_inv)

/-- Each kid of the first n is not ahead of its parent. -/
def Heap (l : List Job) (n : Nat) : Prop := ∀ i, 0 < i → i < n → leJ (at' l ((i - 1) / 2)) (at' l i)

theorem Heap.root {l : List Job} {n : Nat} (h : Heap l n) : ∀ i, i < n → leJ (at' l 0) (at' l i) := by
  intro i
  induction i using Nat.strongRecOn with
  | _ i ih =>
    intro hi
    by_cases h0 : i = 0
    · subst h0; exact leJ_refl _
    · exact leJ_trans (ih ((i - 1) / 2) (by omega) (by omega)) (h i (by omega) hi)

/-- A heap but for the kid j, which may be ahead of its parent. -/
def HeapUp (l : List Job) (n j : Nat) : Prop :=
  (∀ i, 0 < i → i < n → i ≠ j → leJ (at' l ((i - 1) / 2)) (at' l i)) ∧ (∀ c, 0 < c → c < n → (c - 1) / 2 = j → 0 < j → leJ (at' l ((j - 1) / 2)) (at' l c))

theorem up_heap (n : Nat) : ∀ (j : Nat) (l : List Job), j < n → n ≤ l.length → HeapUp l n j → Heap (upL l j) n := by
  intro j
  induction j using Nat.strongRecOn with
  | _ j ih =>
    intro l hj hn h
    by_cases h0 : j = 0
    · subst h0; rw [upL_zero]
      intro i h1 h2; exact h.1 i h1 h2 (by omega)
    · cases hl : lessJ (l.getD j .zero) (l.getD ((j - 1) / 2) .zero) with
      | false =>
        rw [upL_no l j hl]
        intro i h1 h2
        by_cases e : i = j
        · subst e; exact hl
        · exact h.1 i h1 h2 e
      | true =>
        rw [upL_yes l j h0 hl]
        have hp : (j - 1) / 2 < j := by omega
        have lt := leJ_of_less hl
        refine ih _ hp _ (by omega) (by rw [swapL_length]; exact hn) ⟨fun i h1 h2 h3 => ?_, fun c h1 h2 h3 h4 => ?_⟩
        · rw [at_swap _ _ _ _ (by omega) (by omega), at_swap _ _ _ _ (by omega) (by omega)]
          by_cases e : i = j
          · subst e
            rw [if_pos rfl, if_neg (by omega), if_pos rfl]
            exact lt
          · rw [if_neg e, if_neg h3]
            by_cases e2 : (i - 1) / 2 = j
            · rw [if_pos e2]
              exact h.2 i h1 h2 e2 (by omega)
            · rw [if_neg e2]
              by_cases e3 : (i - 1) / 2 = (j - 1) / 2
              · rw [if_pos e3]
                have := h.1 i h1 h2 e
                rw [e3] at this
                exact leJ_trans lt this
              · rw [if_neg e3]
                exact h.1 i h1 h2 e
        · have hc := h.1 ((j - 1) / 2) (by omega) (by omega) (by omega)
          rw [at_swap _ _ _ _ (by omega) (by omega), at_swap _ _ _ _ (by omega) (by omega)]
          rw [if_neg (show ¬ ((j - 1) / 2 - 1) / 2 = j by omega), if_neg (show ¬ ((j - 1) / 2 - 1) / 2 = (j - 1) / 2 by omega)]
          by_cases e : c = j
          · subst e
            rw [if_pos rfl]; exact hc
          · rw [if_neg e, if_neg (by omega)]
            have := h.1 c h1 h2 e
            rw [h3] at this
            exact leJ_trans hc this

theorem up_perm : ∀ (j : Nat) (l : List Job), j < l.length → (upL l j).Perm l := by
  intro j
  induction j using Nat.strongRecOn with
  | _ j ih =>
    intro l hj
    by_cases h0 : j = 0
    · subst h0; rw [upL_zero]
    · cases hl : lessJ (l.getD j .zero) (l.getD ((j - 1) / 2) .zero) with
      | false => rw [upL_no l j hl]
      | true =>
        rw [upL_yes l j h0 hl]
        exact (ih _ (by omega) _ (by rw [swapL_length]; omega)).trans (swap_perm l _ _ (by omega) hj)

/-- A push keeps a heap. -/
theorem push_heap (l : List Job) (x : Job) (h : Heap l l.length) : Heap (upL (l ++ [x]) l.length) (l.length + 1) ∧ (upL (l ++ [x]) l.length).Perm (x :: l) := by
  have hl : (l ++ [x]).length = l.length + 1 := by simp
  have ha : ∀ i, i < l.length → at' (l ++ [x]) i = at' l i := fun i hi => by simp only [at', List.getD_eq_getElem?_getD, List.getElem?_append_left hi]
  refine ⟨up_heap (l.length + 1) l.length _ (by omega) (by omega) ⟨fun i h1 h2 h3 => ?_, fun c h1 h2 h3 _ => by omega⟩, ?_⟩
  · rw [ha i (by omega), ha _ (by omega)]
    exact h i h1 (by omega)
  · exact (up_perm l.length _ (by omega)).trans (List.perm_append_comm (l₁ := l) (l₂ := [x]))

/-- A heap but for i's kids. -/
def HeapDn (l : List Job) (n i : Nat) : Prop :=
  (∀ c, 0 < c → c < n → (c - 1) / 2 ≠ i → leJ (at' l ((c - 1) / 2)) (at' l c)) ∧ (∀ c, 0 < c → c < n → (c - 1) / 2 = i → 0 < i → leJ (at' l ((i - 1) / 2)) (at' l c))

theorem kid_props (l : List Job) (i n : Nat) (h : ¬ n ≤ 2 * i + 1) : kid l i n < n ∧ i < kid l i n ∧ (kid l i n - 1) / 2 = i ∧ ∀ c, 0 < c → c < n → (c - 1) / 2 = i → leJ (at' l (kid l i n)) (at' l c) := by
  unfold kid
  by_cases h2 : 2 * i + 2 < n ∧ lessJ (l.getD (2 * i + 2) .zero) (l.getD (2 * i + 1) .zero) = true
  · rw [if_pos h2]
    refine ⟨h2.1, by omega, by omega, fun c h3 h4 h5 => ?_⟩
    have : c = 2 * i + 1 ∨ c = 2 * i + 2 := by omega
    rcases this with rfl | rfl
    · exact leJ_of_less h2.2
    · exact leJ_refl _
  · rw [if_neg h2]
    refine ⟨by omega, by omega, by omega, fun c h3 h4 h5 => ?_⟩
    have : c = 2 * i + 1 ∨ c = 2 * i + 2 := by omega
    rcases this with rfl | rfl
    · exact leJ_refl _
    · have : ¬ lessJ (l.getD (2 * i + 2) .zero) (l.getD (2 * i + 1) .zero) = true := fun e => h2 ⟨h4, e⟩
      exact Bool.eq_false_iff.2 this

theorem down_heap (n : Nat) : ∀ (d i : Nat) (l : List Job), n - i ≤ d → n ≤ l.length → HeapDn l n i →
    Heap (downL l i n).1 n ∧ (downL l i n).1.Perm l ∧ ∀ k, n ≤ k → at' (downL l i n).1 k = at' l k := by
  intro d
  induction d with
  | zero =>
    intro i l hd hn h
    rw [downL_end l i n (by omega)]
    exact ⟨fun c h1 h2 => h.1 c h1 h2 (by omega), List.Perm.refl _, fun _ _ => rfl⟩
  | succ d ih =>
    intro i l hd hn h
    by_cases h0 : n ≤ 2 * i + 1
    · rw [downL_end l i n h0]
      exact ⟨fun c h1 h2 => h.1 c h1 h2 (by omega), List.Perm.refl _, fun _ _ => rfl⟩
    · obtain ⟨k1, k2, k3, k4⟩ := kid_props l i n h0
      cases hk : lessJ (l.getD (kid l i n) .zero) (l.getD i .zero) with
      | false =>
        rw [downL_no l i n h0 hk]
        refine ⟨fun c h1 h2 => ?_, List.Perm.refl _, fun _ _ => rfl⟩
        by_cases e : (c - 1) / 2 = i
        · rw [e]; exact leJ_trans hk (k4 c h1 h2 e)
        · exact h.1 c h1 h2 e
      | true =>
        rw [downL_yes l i n h0 hk]
        generalize hK : kid l i n = K at *
        have lt := leJ_of_less hk
        have hs : HeapDn (swapL l i K) n K := by
          refine ⟨fun c h1 h2 h3 => ?_, fun c h1 h2 h3 h4 => ?_⟩
          · rw [at_swap _ _ _ _ (by omega) (by omega), at_swap _ _ _ _ (by omega) (by omega)]
            rw [if_neg h3]
            by_cases e : c = K
            · subst e
              rw [if_pos k3, if_pos rfl]; exact lt
            · rw [if_neg e]
              by_cases e1 : c = i
              · subst e1
                rw [if_neg (by omega), if_pos rfl]
                exact h.2 K (by omega) k1 k3 h1
              · rw [if_neg e1]
                by_cases e2 : (c - 1) / 2 = i
                · rw [if_pos e2]; exact k4 c h1 h2 e2
                · rw [if_neg e2]; exact h.1 c h1 h2 e2
          · rw [k3]
            rw [at_swap _ _ _ _ (by omega) (by omega), at_swap _ _ _ _ (by omega) (by omega)]
            rw [if_neg (by omega), if_pos rfl, if_neg (by omega), if_neg (by omega)]
            have := h.1 c h1 h2 (by omega)
            rw [h3] at this
            exact this
        obtain ⟨a1, a2, a3⟩ := ih K (swapL l i K) (by omega) (by rw [swapL_length]; exact hn) hs
        refine ⟨a1, a2.trans (swap_perm l _ _ (by omega) (by omega)), fun k hk => ?_⟩
        rw [a3 k hk, at_swap _ _ _ _ (by omega) (by omega), if_neg (by omega), if_neg (by omega)]

/-- The head is replaced. -/
theorem fix_heap (l : List Job) (x : Job) (h : Heap l l.length) (h0 : 0 < l.length) :
    Heap (downL (l.set 0 x) 0 l.length).1 l.length ∧ (downL (l.set 0 x) 0 l.length).1.Perm (l.set 0 x) := by
  have := down_heap l.length l.length 0 (l.set 0 x) (by omega) (by simp) ⟨fun c h1 h2 h3 => by
    rw [at_set _ _ _ _ h0, at_set _ _ _ _ h0, if_neg h3, if_neg (by omega)]
    exact h c h1 h2, fun c _ _ _ h4 => by omega⟩
  exact ⟨this.1, this.2.1⟩

theorem at_getElem (l : List Job) (i : Nat) (h : i < l.length) : at' l i = l[i] := by simp [at', List.getD, h]

theorem at_dropLast (l : List Job) (i : Nat) (h : i + 1 < l.length) : at' l.dropLast i = at' l i := by
  rw [at_getElem _ _ (by simp; omega), at_getElem _ _ (by omega), List.getElem_dropLast]

/-- The head is removed. -/
theorem pop_heap (x : Job) (r : List Job) (h : Heap (x :: r) (x :: r).length) : Heap (popL (x :: r)).dropLast r.length ∧ (popL (x :: r)).dropLast.Perm r := by
  unfold popL
  simp only [List.length_cons, Nat.add_sub_cancel]
  have hl : (x :: r).length = r.length + 1 := rfl
  have hs : (swapL (x :: r) 0 r.length).length = r.length + 1 := by rw [swapL_length]; rfl
  obtain ⟨a1, a2, a3⟩ := down_heap r.length r.length 0 (swapL (x :: r) 0 r.length) (by omega) (by omega) ⟨fun c h1 h2 h3 => by
    rw [at_swap _ _ _ _ (by omega) (by omega), at_swap _ _ _ _ (by omega) (by omega), if_neg (by omega), if_neg h3, if_neg (by omega), if_neg (by omega)]
    exact h c h1 (by omega), fun c _ _ _ h4 => by omega⟩
  generalize hd : (downL (swapL (x :: r) 0 r.length) 0 r.length).1 = d at *
  have hdl : d.length = r.length + 1 := by rw [a2.length_eq, hs]
  have hlast : at' d r.length = x := by
    rw [a3 _ (Nat.le_refl _), at_swap _ _ _ _ (by omega) (by omega), if_pos rfl]; rfl
  have hne : d ≠ [] := by intro e; rw [e] at hdl; simp at hdl
  have hdc : d = d.dropLast ++ [x] := by
    have := (List.dropLast_concat_getLast hne).symm
    rw [show d.getLast hne = x by rw [← hlast, at_getElem _ _ (by omega), List.getLast_eq_getElem]; congr 1; omega] at this
    exact this
  refine ⟨fun c h1 h2 => ?_, ?_⟩
  · rw [at_dropLast _ _ (by omega), at_dropLast _ _ (by omega)]
    exact a1 c h1 h2
  · have p : d.Perm (x :: r) := a2.trans (swap_perm _ _ _ (by omega) (by omega))
    rw [hdc] at p
    exact ((List.perm_append_comm (l₁ := d.dropLast) (l₂ := [x])).symm.trans p).cons_inv
end Go.Proofs.Ytenfikfgliljmaa.LA
/- The earliest deadline first, tick by tick, over plain numbers: no job of it is late where the needs want no more than the major frame together. No program, no memory. -/
namespace Go.Proofs.Ytenfikfgliljmaa.LT

/-- The first of those that have something left and are due first. -/
def best (l d : Nat → Nat) : Nat → Option Nat
  | 0 => none
  | n + 1 => match best l d n with
    | none => if 0 < l n then some n else none
    | some b => if 0 < l n ∧ d n < d b then some n else some b

theorem best_none {l d : Nat → Nat} : ∀ {n : Nat}, best l d n = none → ∀ i, i < n → l i = 0
  | 0, _, i, hi => absurd hi (Nat.not_lt_zero i)
  | n + 1, h, i, hi => by
    simp only [best] at h
    split at h
    · rename_i hb
      split at h
      · cases h
      · by_cases e : i = n
        · subst e; omega
        · exact best_none hb i (by omega)
    · split at h <;> cases h

theorem best_some {l d : Nat → Nat} : ∀ {n b : Nat}, best l d n = some b → b < n ∧ 0 < l b ∧ ∀ i, i < n → 0 < l i → d b < d i ∨ (d b = d i ∧ b ≤ i)
  | 0, b, h => by simp [best] at h
  | n + 1, b, h => by
    simp only [best] at h
    split at h
    · rename_i hb
      split at h
      · cases h
        refine ⟨by omega, by assumption, fun i hi hl => ?_⟩
        by_cases e : i = n
        · subst e; omega
        · have := best_none hb i (by omega); omega
      · cases h
    · rename_i b' hb
      obtain ⟨h1, h2, h3⟩ := best_some hb
      split at h
      · rename_i hc
        cases h
        refine ⟨by omega, hc.1, fun i hi hl => ?_⟩
        by_cases e : i = n
        · subst e; omega
        · have := h3 i (by omega) hl; omega
      · rename_i hc
        cases h
        refine ⟨by omega, h2, fun i hi hl => ?_⟩
        by_cases e : i = n
        · subst e; omega
        · exact h3 i (by omega) hl

theorem best_eq {l d : Nat → Nat} {n b : Nat} (hb : b < n) (hl : 0 < l b) (h : ∀ i, i < n → 0 < l i → d b < d i ∨ (d b = d i ∧ b ≤ i)) : best l d n = some b := by
  cases hq : best l d n with
  | none => have := best_none hq b hb; omega
  | some c =>
    obtain ⟨h1, h2, h3⟩ := best_some hq
    have a := h3 b hb hl
    have b' := h c h1 h2
    congr 1; omega

theorem best_eq_none {l d : Nat → Nat} {n : Nat} (h : ∀ i, i < n → l i = 0) : best l d n = none := by
  cases hq : best l d n with
  | none => rfl
  | some c => have := best_some hq; have := h c this.1; omega

section
variable (P B : Nat → Nat) (n : Nat)

/-- When the job of the need i, that is released by t, is due. -/
def due (i t : Nat) : Nat := (t / P i + 1) * P i

/-- What is left of each need's job at the tick t, as it begins. -/
def lf : Nat → Nat → Nat
  | 0, i => B i
  | t + 1, i => if (t + 1) % P i = 0 then B i else lf t i - (if best (lf t) (fun i => due P i t) n = some i then 1 else 0)

/-- Who runs at the tick t. -/
def who (t : Nat) : Option Nat := best (lf P B n t) (fun i => due P i t) n

/-- What was left ahead of the tick t, before anything is released. -/
def pre : Nat → Nat → Nat
  | 0, _ => 0
  | t + 1, i => lf P B n t i - (if who P B n t = some i then 1 else 0)

theorem lf_succ (t i : Nat) : lf P B n (t + 1) i = if (t + 1) % P i = 0 then B i else pre P B n (t + 1) i := rfl
theorem lf_eq (t i : Nat) : lf P B n t i = if t % P i = 0 then B i else pre P B n t i := by
  cases t with
  | zero => simp [lf]
  | succ t => rfl

/-- How many ticks of those from s on the need i runs, m ticks long. -/
def cnt (s i : Nat) : Nat → Nat
  | 0 => 0
  | m + 1 => cnt s i m + (if who P B n (s + m) = some i then 1 else 0)

/-- A sum. -/
def sumN (f : Nat → Nat) : Nat → Nat
  | 0 => 0
  | k + 1 => sumN f k + f k

theorem sumN_le {f g : Nat → Nat} : ∀ {k : Nat}, (∀ i, i < k → f i ≤ g i) → sumN f k ≤ sumN g k
  | 0, _ => Nat.le_refl _
  | k + 1, h => Nat.add_le_add (sumN_le fun i hi => h i (by omega)) (h k (by omega))
theorem sumN_lt {f g : Nat → Nat} {j c : Nat} : ∀ {k : Nat}, (∀ i, i < k → f i ≤ g i) → j < k → f j + c ≤ g j → sumN f k + c ≤ sumN g k
  | 0, _, hj, _ => absurd hj (Nat.not_lt_zero _)
  | k + 1, h, hj, hc => by
    simp only [sumN]
    by_cases e : j = k
    · subst e
      have := sumN_le (f := f) (g := g) (k := j) fun i hi => h i (by omega)
      omega
    · have := sumN_lt (k := k) (fun i hi => h i (by omega)) (show j < k by omega) hc
      have := h k (by omega)
      omega
theorem sumN_mul (f : Nat → Nat) (c : Nat) : ∀ k, sumN (fun i => f i * c) k = sumN f k * c
  | 0 => by simp [sumN]
  | k + 1 => by simp only [sumN, sumN_mul f c k, Nat.add_mul]
theorem sumN_add (f g : Nat → Nat) : ∀ k, sumN (fun i => f i + g i) k = sumN f k + sumN g k
  | 0 => rfl
  | k + 1 => by simp only [sumN, sumN_add f g k]; omega
theorem sumN_congr {f g : Nat → Nat} : ∀ {k : Nat}, (∀ i, i < k → f i = g i) → sumN f k = sumN g k
  | 0, _ => rfl
  | k + 1, h => by simp only [sumN]; rw [sumN_congr fun i hi => h i (by omega), h k (by omega)]
theorem sumN_one (b : Nat) : ∀ k, sumN (fun i => if some b = some i then 1 else 0) k = if b < k then 1 else 0
  | 0 => by simp [sumN]
  | k + 1 => by
    rw [sumN, sumN_one b k]
    simp only [Option.some.injEq]
    by_cases h : b < k
    · rw [if_pos h, if_neg (by omega), if_pos (by omega)]
    · by_cases e : b = k
      · rw [if_neg h, if_pos e, if_pos (by omega)]
      · rw [if_neg h, if_neg e, if_neg (by omega)]
theorem sumN_zero : ∀ k, sumN (fun _ => 0) k = 0
  | 0 => rfl
  | k + 1 => by simp only [sumN, sumN_zero k]

variable {P B n}

theorem due_of_mul {i t : Nat} (h : t % P i = 0) : due P i t = t + P i := by
  unfold due
  have := Nat.div_add_mod t (P i)
  rw [h, Nat.add_zero] at this
  rw [Nat.add_mul, Nat.one_mul, Nat.mul_comm, this]

theorem div_succ_of_not {t p : Nat} (_hp : 0 < p) (h : (t + 1) % p ≠ 0) : (t + 1) / p = t / p := by
  rw [Nat.succ_div, if_neg (fun hd => h (Nat.mod_eq_zero_of_dvd hd)), Nat.add_zero]
theorem due_same {i t : Nat} (hp : 0 < P i) (h : (t + 1) % P i ≠ 0) : due P i (t + 1) = due P i t := by
  unfold due; rw [div_succ_of_not hp h]

theorem due_ahead {i t : Nat} (h : (t + 1) % P i = 0) (_hp : 0 < P i) : due P i t = t + 1 := by
  unfold due
  have h1 : (t + 1) / P i = t / P i + 1 := by rw [Nat.succ_div, if_pos (Nat.dvd_of_mod_eq_zero h)]
  have := Nat.div_add_mod (t + 1) (P i)
  rw [h, Nat.add_zero, h1, Nat.mul_comm] at this
  exact this

theorem lt_due {i t : Nat} (hp : 0 < P i) : t < due P i t := by
  unfold due
  have := Nat.div_add_mod t (P i)
  have := Nat.mod_lt t hp
  rw [Nat.add_mul, Nat.one_mul, Nat.mul_comm]; omega

/-- What a tick does. -/
theorem pre_add {t i : Nat} : pre P B n (t + 1) i + (if who P B n t = some i then 1 else 0) = lf P B n t i := by
  unfold pre
  by_cases h : who P B n t = some i
  · have := (best_some h).2.1
    simp only [if_pos h]; omega
  · simp only [if_neg h]; omega

variable (P B n) in
/-- A tick at which a job runs that is due by d. -/
def Busy (d u : Nat) : Prop := ∃ b, who P B n u = some b ∧ due P b u ≤ d

theorem busy_of {d u i : Nat} (hi : i < n) (hl : 0 < lf P B n u i) (hd : due P i u ≤ d) : Busy P B n d u := by
  cases hw : who P B n u with
  | none => have := best_none hw i hi; omega
  | some b =>
    obtain ⟨h1, h2, h3⟩ := best_some hw
    have := h3 i hi hl
    exact ⟨b, hw, by omega⟩

open Classical in
theorem stretch (Q : Nat → Prop) : ∀ d, ∃ s, s ≤ d ∧ (∀ u, s ≤ u → u < d → Q u) ∧ (s = 0 ∨ ¬ Q (s - 1))
  | 0 => ⟨0, Nat.le_refl _, fun u _ h => absurd h (Nat.not_lt_zero u), .inl rfl⟩
  | d + 1 => by
    by_cases h : Q d
    · obtain ⟨s, h1, h2, h3⟩ := stretch Q d
      refine ⟨s, by omega, fun u hu hd => ?_, h3⟩
      by_cases e : u = d
      · rw [e]; exact h
      · exact h2 u hu (by omega)
    · exact ⟨d + 1, Nat.le_refl _, fun u hu hd => by omega, .inr (by simpa using h)⟩

/-- The needs, and that they do not want too much together. -/
structure Fair (P B : Nat → Nat) (n M : Nat) : Prop where
  m : 0 < M
  p : ∀ i, i < n → 0 < P i
  div : ∀ i, i < n → M % P i = 0
  sum : sumN (fun i => B i * (M / P i)) n ≤ M

/-- What holds of a need, u ticks in, of a stretch from s on to d. -/
def Inv (P B : Nat → Nat) (n s d u i : Nat) : Prop :=
  (due P i u ≤ d → P i * (cnt P B n s i (u - s) + lf P B n u i) ≤ B i * (due P i u - s)) ∧ (¬ due P i u ≤ d → P i * cnt P B n s i (u - s) ≤ B i * (d - s))

theorem cnt_succ {s u i : Nat} (h : s ≤ u) : cnt P B n s i (u + 1 - s) = cnt P B n s i (u - s) + (if who P B n u = some i then 1 else 0) := by
  rw [show u + 1 - s = (u - s) + 1 by omega]
  simp only [cnt]
  rw [show s + (u - s) = u by omega]

theorem inv_begin {M s d : Nat} (F : Fair P B n M) (hs : s < d) (h0 : s = 0 ∨ ¬ Busy P B n d (s - 1)) (i : Nat) (hi : i < n) : Inv P B n s d s i := by
  have hp := F.p i hi
  have hc : cnt P B n s i (s - s) = 0 := by rw [Nat.sub_self]; rfl
  refine ⟨fun hd => ?_, fun _ => by rw [hc]; simp⟩
  rw [hc, Nat.zero_add]
  by_cases hm : s % P i = 0
  · rw [lf_eq, if_pos hm, due_of_mul hm, Nat.add_sub_cancel_left, Nat.mul_comm]
    exact Nat.le_refl _
  · cases s with
    | zero => simp at hm
    | succ s =>
      have hl : lf P B n s i = 0 := by
        rcases Nat.eq_zero_or_pos (lf P B n s i) with h | h
        · exact h
        · exfalso
          rcases h0 with h0 | h0
          · omega
          · exact h0 (by simpa using busy_of hi h (by rw [← due_same hp hm]; exact hd))
      rw [lf_eq, if_neg hm]
      have := pre_add (P := P) (B := B) (n := n) (t := s) (i := i)
      rw [show pre P B n (s + 1) i = 0 by omega]
      simp

theorem inv_step {M s d u : Nat} (F : Fair P B n M) (hs : s ≤ u) (hu : u + 1 < d) (hb : Busy P B n d u) (hmiss : ∀ i, i < n → (u + 1) % P i = 0 → pre P B n (u + 1) i = 0) (i : Nat) (hi : i < n) (h : Inv P B n s d u i) : Inv P B n s d (u + 1) i := by
  have hp := F.p i hi
  have ha := pre_add (P := P) (B := B) (n := n) (t := u) (i := i)
  obtain ⟨b, hw, hbd⟩ := hb
  by_cases hm : (u + 1) % P i = 0
  · have hd1 : due P i u = u + 1 := due_ahead hm hp
    have h1 := h.1 (by omega)
    have h0 := hmiss i hi hm
    rw [hd1] at h1
    have hc : cnt P B n s i (u + 1 - s) = cnt P B n s i (u - s) + lf P B n u i := by rw [cnt_succ hs]; omega
    rw [← hc] at h1
    refine ⟨fun hd => ?_, fun _ => ?_⟩
    · rw [lf_eq, if_pos hm, due_of_mul hm, Nat.mul_add, show u + 1 + P i - s = (u + 1 - s) + P i by omega, Nat.mul_add, Nat.mul_comm (P i) (B i)]
      omega
    · exact Nat.le_trans h1 (Nat.mul_le_mul_left _ (by omega))
  · have hd1 := due_same (P := P) hp hm
    rw [Inv, hd1, lf_eq, if_neg hm, cnt_succ hs]
    refine ⟨fun hd => ?_, fun hd => ?_⟩
    · have h1 := h.1 hd
      rw [show cnt P B n s i (u - s) + (if who P B n u = some i then 1 else 0) + pre P B n (u + 1) i = cnt P B n s i (u - s) + lf P B n u i by omega]
      exact h1
    · have h1 := h.2 hd
      rw [if_neg (fun e => by rw [hw] at e; cases e; exact hd hbd), Nat.add_zero]
      exact h1

theorem cnt_sum {s : Nat} : ∀ m, (∀ u, s ≤ u → u < s + m → ∃ b, who P B n u = some b) → sumN (fun i => cnt P B n s i m) n = m
  | 0, _ => sumN_zero n
  | m + 1, h => by
    simp only [cnt]
    rw [sumN_add, cnt_sum m fun u h1 h2 => h u h1 (by omega)]
    obtain ⟨b, hb⟩ := h (s + m) (by omega) (by omega)
    rw [hb, sumN_one, if_pos (best_some hb).1]

/-- No job is late. -/
theorem no_miss {M : Nat} (F : Fair P B n M) : ∀ t, t < M → ∀ i, i < n → (t + 1) % P i = 0 → pre P B n (t + 1) i = 0 := by
  intro t
  induction t using Nat.strongRecOn with
  | _ t ih =>
    intro ht k hk hkm
    rcases Nat.eq_zero_or_pos (pre P B n (t + 1) k) with h | hpos
    · exact h
    exfalso
    have hkp := F.p k hk
    have hkd : due P k t = t + 1 := due_ahead hkm hkp
    have hlk : 0 < lf P B n t k := by have := pre_add (P := P) (B := B) (n := n) (t := t) (i := k); omega
    obtain ⟨s, h1, h2, h3⟩ := stretch (Busy P B n (t + 1)) (t + 1)
    have hsd : s ≤ t := by
      rcases Nat.lt_or_ge t s with h | h
      · exfalso
        obtain rfl : s = t + 1 := by omega
        rcases h3 with h3 | h3
        · omega
        · exact h3 (by simpa using busy_of hk hlk (by omega))
      · exact h
    have hinv : ∀ m, s + m ≤ t → ∀ i, i < n → Inv P B n s (t + 1) (s + m) i := by
      intro m
      induction m with
      | zero => exact fun _ i hi => inv_begin F (by omega) h3 i hi
      | succ m ihm =>
        intro hm i hi
        exact inv_step F (by omega) (by omega) (h2 (s + m) (by omega) (by omega)) (fun j hj hjm => ih (s + m) (by omega) (by omega) j hj hjm) i hi (ihm (by omega) i hi)
    have hlast := hinv (t - s) (by omega)
    rw [show s + (t - s) = t by omega] at hlast
    obtain ⟨b, hw, hbd⟩ := h2 t hsd (by omega)
    have hx : ∀ i, i < n → P i * cnt P B n s i (t + 1 - s) ≤ B i * (t + 1 - s) := by
      intro i hi
      rw [cnt_succ hsd]
      by_cases hd : due P i t ≤ t + 1
      · refine Nat.le_trans ?_ (Nat.le_trans ((hlast i hi).1 hd) (Nat.mul_le_mul_left _ (by omega)))
        have := pre_add (P := P) (B := B) (n := n) (t := t) (i := i)
        exact Nat.mul_le_mul_left _ (by omega)
      · rw [if_neg (fun e => by rw [hw] at e; cases e; exact hd hbd), Nat.add_zero]
        exact (hlast i hi).2 hd
    have hxk : P k * (cnt P B n s k (t + 1 - s) + 1) ≤ B k * (t + 1 - s) := by
      rw [cnt_succ hsd]
      have h4 := (hlast k hk).1 (by omega)
      rw [hkd] at h4
      refine Nat.le_trans (Nat.mul_le_mul_left _ ?_) h4
      have := pre_add (P := P) (B := B) (n := n) (t := t) (i := k)
      omega
    have hsum := cnt_sum (P := P) (B := B) (n := n) (s := s) (t + 1 - s) (fun u hu hd => by obtain ⟨b, hb, _⟩ := h2 u hu (by omega); exact ⟨b, hb⟩)
    have key : sumN (fun i => cnt P B n s i (t + 1 - s) * M) n + M ≤ sumN (fun i => B i * (M / P i) * (t + 1 - s)) n := by
      refine sumN_lt (j := k) (fun i hi => ?_) hk ?_
      · have hm : M = P i * (M / P i) := by have := Nat.div_add_mod M (P i); rw [F.div i hi] at this; omega
        calc cnt P B n s i (t + 1 - s) * M = (P i * cnt P B n s i (t + 1 - s)) * (M / P i) := by
              conv => lhs; rw [hm]
              rw [← Nat.mul_assoc, Nat.mul_comm (cnt P B n s i (t + 1 - s)) (P i)]
          _ ≤ (B i * (t + 1 - s)) * (M / P i) := Nat.mul_le_mul_right _ (hx i hi)
          _ = B i * (M / P i) * (t + 1 - s) := by rw [Nat.mul_assoc, Nat.mul_comm (t + 1 - s), ← Nat.mul_assoc]
      · have hm : M = P k * (M / P k) := by have := Nat.div_add_mod M (P k); rw [F.div k hk] at this; omega
        calc cnt P B n s k (t + 1 - s) * M + M = (cnt P B n s k (t + 1 - s) + 1) * M := by rw [Nat.add_mul, Nat.one_mul]
          _ = (P k * (cnt P B n s k (t + 1 - s) + 1)) * (M / P k) := by
              conv => lhs; rw [hm]
              rw [← Nat.mul_assoc, Nat.mul_comm (cnt P B n s k (t + 1 - s) + 1) (P k)]
          _ ≤ (B k * (t + 1 - s)) * (M / P k) := Nat.mul_le_mul_right _ hxk
          _ = B k * (M / P k) * (t + 1 - s) := by rw [Nat.mul_assoc, Nat.mul_comm (t + 1 - s), ← Nat.mul_assoc]
    rw [sumN_mul, sumN_mul, hsum] at key
    have h5 := Nat.mul_le_mul_right (t + 1 - s) F.sum
    rw [Nat.mul_comm M (t + 1 - s)] at h5
    have := F.m
    omega
end
end Go.Proofs.Ytenfikfgliljmaa.LT
/- lanes.earliest keeps to the earliest deadline first: its states, told tick by tick. -/
namespace Go.Proofs.Ytenfikfgliljmaa.LA
open Go.Proofs.Ytenfikfgliljmaa.LT

/-! ### rows, tick by tick -/
/-- The row of n ticks, of who runs at each. -/
def rowOf (f : Nat → ByteArray) : Nat → List Slot
  | 0 => []
  | t + 1 => runL (rowOf f t) (f t) 1

theorem runL_nil (s : ByteArray) (t : Int) : runL [] s t = [⟨s, 0, t⟩] := rfl
theorem runL_concat (zs : List Slot) (y : Slot) (s : ByteArray) (t : Int) :
    runL (zs ++ [y]) s t = if y.subj.toList == s.toList then zs ++ [⟨y.subj, y.lo, y.hi + t⟩] else (zs ++ [y]) ++ [⟨s, y.hi, y.hi + t⟩] := by
  simp [runL]

theorem list_cases (ys : List Slot) : ys = [] ∨ ∃ zs y, ys = zs ++ [y] := by
  by_cases h : ys = []
  · exact .inl h
  · exact .inr ⟨ys.dropLast, ys.getLast h, (List.dropLast_concat_getLast h).symm⟩

theorem runL_runL (ys : List Slot) (s : ByteArray) (a b : Int) : runL (runL ys s a) s b = runL ys s (a + b) := by
  rcases list_cases ys with rfl | ⟨zs, y, rfl⟩
  · rw [runL_nil, runL_nil, show [(⟨s, 0, a⟩ : Slot)] = [] ++ [⟨s, 0, a⟩] from rfl, runL_concat]
    simp
  · rw [runL_concat, runL_concat]
    cases h : y.subj.toList == s.toList with
    | true => simp only [if_true]; rw [runL_concat]; simp only [h, if_true]; rw [Int.add_assoc]
    | false => simp only [Bool.false_eq_true, if_false]; rw [runL_concat]; simp [Int.add_assoc]

theorem endL_runL (ys : List Slot) (s : ByteArray) (a : Int) : endL (runL ys s a) = endL ys + a := by
  rcases list_cases ys with rfl | ⟨zs, y, rfl⟩
  · simp [runL_nil, endL, Slot.zero]
  · rw [runL_concat]
    split <;> simp [endL]

theorem length_runL (ys : List Slot) (s : ByteArray) (a : Int) : (runL ys s a).length ≤ ys.length + 1 := by
  rcases list_cases ys with rfl | ⟨zs, y, rfl⟩
  · simp [runL_nil]
  · rw [runL_concat]
    split <;> simp

theorem endL_rowOf (f : Nat → ByteArray) : ∀ t, endL (rowOf f t) = (t : Int)
  | 0 => rfl
  | t + 1 => by rw [rowOf, endL_runL, endL_rowOf f t]; simp

theorem length_rowOf (f : Nat → ByteArray) : ∀ t, (rowOf f t).length ≤ t
  | 0 => Nat.le_refl _
  | t + 1 => by rw [rowOf]; have := length_runL (rowOf f t) (f t) 1; have := length_rowOf f t; omega

theorem rowOf_run (f : Nat → ByteArray) (s : ByteArray) (t : Nat) : ∀ k, 0 < k → (∀ u, t ≤ u → u < t + k → f u = s) → runL (rowOf f t) s (k : Int) = rowOf f (t + k)
  | 0, h, _ => absurd h (Nat.lt_irrefl 0)
  | k + 1, _, h => by
    have hl : rowOf f (t + (k + 1)) = runL (rowOf f (t + k)) s 1 := by
      rw [show t + (k + 1) = (t + k) + 1 by omega, rowOf, h (t + k) (by omega) (by omega)]
    rw [hl]
    by_cases h0 : k = 0
    · subst h0; rfl
    · rw [← rowOf_run f s t k (by omega) (fun u h1 h2 => h u h1 (by omega)), runL_runL]
      congr 1

/-! ### small facts on lists -/
theorem nodup_len : ∀ (n : Nat) (l : List Int), l.Nodup → (∀ x, x ∈ l → 0 ≤ x ∧ x < n) → l.length ≤ n
  | 0, l, _, h => by
    cases l with
    | nil => simp
    | cons a l => have := h a List.mem_cons_self; omega
  | n + 1, l, hn, h => by
    by_cases hm : (n : Int) ∈ l
    · have := nodup_len n (l.erase (n : Int)) (hn.erase _) (fun x hx => by
        have h1 := (hn.mem_erase_iff).1 hx
        have h2 := h x h1.2
        have h3 := h1.1
        omega)
      rw [List.length_erase_of_mem hm] at this
      omega
    · have := nodup_len n l hn (fun x hx => by
        have h2 := h x hx
        have h3 : x ≠ (n : Int) := fun e => hm (e ▸ hx)
        omega)
      omega

theorem nodup_inj {l : List Job} (h : (l.map (·.need)).Nodup) : ∀ x, x ∈ l → ∀ y, y ∈ l → x.need = y.need → x = y := by
  induction l with
  | nil => intro x hx; cases hx
  | cons a l ih =>
    simp only [List.map_cons, List.nodup_cons] at h
    intro x hx y hy e
    rcases List.mem_cons.1 hx with e1 | hx'
    · rcases List.mem_cons.1 hy with e2 | hy'
      · rw [e1, e2]
      · exact absurd (List.mem_map.2 ⟨y, hy', by rw [← e, e1]⟩) h.1
    · rcases List.mem_cons.1 hy with e2 | hy'
      · exact absurd (List.mem_map.2 ⟨x, hx', by rw [e, e2]⟩) h.1
      · exact ih h.2 x hx' y hy' e

section
variable (xs : List Need) (M : Nat)
def Pf (i : Nat) : Nat := (xs.getD i .zero).period.toNat
def Bf (i : Nat) : Nat := (xs.getD i .zero).budget.toNat
/-- Who runs, by name. -/
def whoF (t : Nat) : ByteArray := match LT.who (Pf xs) (Bf xs) xs.length t with
  | none => ⟨#[]⟩
  | some i => (xs.getD i .zero).subj

/-- The needs are right, and want no more than the frame. -/
structure Fit : Prop where
  m0 : 0 < M
  m1 : M ≤ 65536
  len : xs.length ≤ 65536
  ok : ∀ i, i < xs.length → 0 < Bf xs i ∧ Bf xs i ≤ Pf xs i ∧ Pf xs i ≤ M ∧ M % Pf xs i = 0
  nat : ∀ i, i < xs.length → (xs.getD i .zero).period = (Pf xs i : Int) ∧ (xs.getD i .zero).budget = (Bf xs i : Int)
  sum : sumN (fun i => Bf xs i * (M / Pf xs i)) xs.length ≤ M

theorem Fit.fair {xs : List Need} {M : Nat} (h : Fit xs M) : LT.Fair (Pf xs) (Bf xs) xs.length M :=
  ⟨h.m0, fun i hi => by have := h.ok i hi; omega, fun i hi => (h.ok i hi).2.2.2, h.sum⟩

/-- What is left of a need at the tick t, and when it is due. -/
abbrev lfx (t i : Nat) : Nat := LT.lf (Pf xs) (Bf xs) xs.length t i
abbrev duex (i t : Nat) : Nat := LT.due (Pf xs) i t

/-- A state at the tick t: some of what is released at t is not yet released. -/
structure Core (t : Nat) (st : St) : Prop where
  now : st.now = (t : Int)
  row : st.row = rowOf (whoF xs) t
  hw : Heap st.wait st.wait.length
  hn : Heap st.next st.next.length
  wn : (st.wait.map (·.need)).Nodup
  nn : (st.next.map (·.need)).Nodup
  nx : ∀ x, x ∈ st.next → ∃ i, i < xs.length ∧ x.need = (i : Int) ∧ x.left = 0 ∧ ((x.due = (t : Int) ∧ t % Pf xs i = 0) ∨ x.due = (duex xs i t : Int))
  nall : ∀ i, i < xs.length → ∃ x, x ∈ st.next ∧ x.need = (i : Int)
  wx : ∀ x, x ∈ st.wait → ∃ i, i < xs.length ∧ x.need = (i : Int) ∧ x.due = (duex xs i t : Int) ∧ x.left = (lfx xs t i : Int) ∧ 0 < lfx xs t i ∧ ∀ y, y ∈ st.next → y.need = (i : Int) → y.due = (duex xs i t : Int)
  wall : ∀ i, i < xs.length → 0 < lfx xs t i → (∀ y, y ∈ st.next → y.need = (i : Int) → y.due = (duex xs i t : Int)) → ∃ x, x ∈ st.wait ∧ x.need = (i : Int)
end
end Go.Proofs.Ytenfikfgliljmaa.LA
/- lanes.earliest keeps to the earliest deadline first: its steps. -/
namespace Go.Proofs.Ytenfikfgliljmaa.LA
open Go.Proofs.Ytenfikfgliljmaa.LT

theorem best_congr {l d l' d' : Nat → Nat} : ∀ {n : Nat}, (∀ i, i < n → l i = l' i ∧ d i = d' i) → best l d n = best l' d' n
  | 0, _ => rfl
  | n + 1, h => by
    simp only [best]
    rw [best_congr fun i hi => h i (by omega), (h n (by omega)).1, (h n (by omega)).2]
    cases hb : best l' d' n with
    | none => rfl
    | some b => have := best_some hb; simp only [(h b (by omega)).2]

section
variable {P B : Nat → Nat} {n : Nat}
/-- A stretch without a release, in which the same one runs, or nobody. -/
theorem steady {w : Option Nat} {t U : Nat} (hp : ∀ i, i < n → 0 < P i) (hrel : ∀ i, i < n → ∀ u, t < u → u < U → u % P i ≠ 0) (k : Nat) (hk : t + k ≤ U)
    (hwho : ∀ m, m < k → best (fun j => lf P B n t j - (if w = some j then m else 0)) (fun j => LT.due P j t) n = w) :
    (∀ m, m < k → who P B n (t + m) = w ∧ ∀ i, i < n → lf P B n (t + m) i = lf P B n t i - (if w = some i then m else 0)) ∧
      (0 < k → ∀ i, i < n → pre P B n (t + k) i = lf P B n t i - (if w = some i then k else 0)) := by
  have hdue : ∀ m, t + m < U → ∀ i, i < n → LT.due P i (t + m) = LT.due P i t := by
    intro m
    induction m with
    | zero => intros; rfl
    | succ m ih =>
      intro h i hi
      rw [show t + (m + 1) = (t + m) + 1 by omega, due_same (hp i hi) (hrel i hi _ (by omega) (by omega)), ih (by omega) i hi]
  have key : ∀ m, m < k → who P B n (t + m) = w ∧ ∀ i, i < n → lf P B n (t + m) i = lf P B n t i - (if w = some i then m else 0) := by
    intro m
    induction m with
    | zero =>
      intro h
      refine ⟨?_, fun i hi => by simp⟩
      rw [← hwho 0 h]
      exact best_congr fun i hi => ⟨by simp, rfl⟩
    | succ m ih =>
      intro h
      obtain ⟨h1, h2⟩ := ih (by omega)
      have hl : ∀ i, i < n → lf P B n (t + (m + 1)) i = lf P B n t i - (if w = some i then m + 1 else 0) := by
        intro i hi
        rw [show t + (m + 1) = (t + m) + 1 by omega, lf_succ, if_neg (hrel i hi _ (by omega) (by omega)), pre, h1, h2 i hi]
        by_cases e : w = some i
        · simp only [if_pos e]; omega
        · simp only [if_neg e]; omega
      refine ⟨?_, hl⟩
      rw [← hwho (m + 1) h]
      exact best_congr fun i hi => ⟨hl i hi, hdue (m + 1) (by omega) i hi⟩
  refine ⟨key, fun h0 i hi => ?_⟩
  obtain ⟨m, rfl⟩ : ∃ m, k = m + 1 := ⟨k - 1, by omega⟩
  obtain ⟨h1, h2⟩ := key m (by omega)
  rw [show t + (m + 1) = (t + m) + 1 by omega, pre, h1, h2 i hi]
  by_cases e : w = some i
  · simp only [if_pos e]; omega
  · simp only [if_neg e]; omega
end

section
variable {xs : List Need} {M : Nat}

theorem core_init (F : Fit xs M) : Core xs 0 ⟨0, [], [], initNext xs.length⟩ where
  now := rfl
  row := rfl
  hw := fun i h1 h2 => absurd h2 (Nat.not_lt_zero i)
  hn := fun i h1 h2 => by
    rw [initNext_length] at h2
    rw [leJ_iff, at', at', initNext_get _ _ h2, initNext_get _ _ (by omega)]
    simp; omega
  wn := List.nodup_nil
  nn := by
    rw [initNext, List.map_map]
    rw [show ((fun x : Job => x.need) ∘ fun (i : Nat) => (⟨(i : Int), 0, 0⟩ : Job)) = fun (i : Nat) => (i : Int) from rfl]
    rw [List.nodup_iff_pairwise_ne, List.pairwise_map]
    exact (List.nodup_range (n := xs.length)).imp fun h e => h (by omega)
  nx := fun x hx => by
    simp only [initNext, List.mem_map, List.mem_range] at hx
    obtain ⟨i, hi, rfl⟩ := hx
    exact ⟨i, hi, rfl, rfl, .inl ⟨rfl, by simp⟩⟩
  nall := fun i hi => ⟨⟨(i : Int), 0, 0⟩, by simp only [initNext, List.mem_map, List.mem_range]; exact ⟨i, hi, rfl⟩, rfl⟩
  wx := fun x hx => by cases hx
  wall := fun i hi _ h => by
    have := h ⟨(i : Int), 0, 0⟩ (by simp only [initNext, List.mem_map, List.mem_range]; exact ⟨i, hi, rfl⟩) rfl
    have h2 := lt_due (P := Pf xs) (i := i) (t := 0) (F.fair.p i hi)
    simp only [duex] at this
    omega

theorem core_lens {t : Nat} {st : St} (C : Core xs t st) : st.wait.length ≤ xs.length ∧ st.next.length ≤ xs.length := by
  constructor
  · have := nodup_len xs.length (st.wait.map (·.need)) C.wn (fun x hx => by
      obtain ⟨y, hy, rfl⟩ := List.mem_map.1 hx
      obtain ⟨i, hi, e, _⟩ := C.wx y hy
      omega)
    simpa using this
  · have := nodup_len xs.length (st.next.map (·.need)) C.nn (fun x hx => by
      obtain ⟨y, hy, rfl⟩ := List.mem_map.1 hx
      obtain ⟨i, hi, e, _⟩ := C.nx y hy
      omega)
    simpa using this

theorem lfx_le (F : Fit xs M) : ∀ t i, i < xs.length → lfx xs t i ≤ Bf xs i
  | 0, i, _ => Nat.le_refl _
  | t + 1, i, hi => by
    unfold lfx
    rw [lf_succ]
    split
    · exact Nat.le_refl _
    · have := lfx_le F t i hi
      unfold lfx at this
      rw [pre]; omega

theorem duex_le (F : Fit xs M) {t i : Nat} (hi : i < xs.length) : duex xs i t ≤ t + M := by
  have hp := F.fair.p i hi
  have := (F.ok i hi).2.2.1
  have h2 : t / Pf xs i * Pf xs i ≤ t := Nat.div_mul_le_self _ _
  unfold duex LT.due
  rw [Nat.add_mul, Nat.one_mul]; omega

theorem core_bd (F : Fit xs M) {t : Nat} {st : St} (C : Core xs t st) (ht : t < M) : Bd xs.length M st := by
  have hl := core_lens C
  have hM := F.m1
  have hx := F.len
  refine ⟨by rw [C.now]; omega, by rw [C.now]; omega, ?_, ?_, by omega, by omega, ?_, ?_, ?_⟩
  · rw [C.row]; have := length_rowOf (whoF xs) t; omega
  · rw [C.row, endL_rowOf, C.now]
  · intro x hx
    obtain ⟨i, hi, e1, e2, e3, e4, _⟩ := C.wx x hx
    have := lfx_le F t i hi
    have := (F.ok i hi).2.1
    have := (F.ok i hi).2.2.1
    have := duex_le F (t := t) hi
    exact ⟨by omega, by omega, by omega, by omega, by omega, by omega⟩
  · intro x hx
    obtain ⟨i, hi, e1, e2, e3⟩ := C.nx x hx
    have := duex_le F (t := t) hi
    exact ⟨by omega, by omega, by omega, by omega, by omega, by omega⟩
  · intro x hx
    obtain ⟨i, hi, e1, e2, e3, e4, _⟩ := C.wx x (List.mem_of_getElem? hx)
    omega

/-- How many are still to be released at this tick. -/
def muS (st : St) : Nat := st.next.countP fun x => decide (x.due = st.now)

theorem cons_of_get {l : List Job} {x : Job} (h : l[0]? = some x) : ∃ r, l = x :: r := by
  cases l with
  | nil => simp at h
  | cons a l => simp at h; exact ⟨l, by rw [h]⟩

theorem core_inner (F : Fit xs M) {t : Nat} {st : St} (C : Core xs t st) (x : Job) (hx : st.next[0]? = some x) (hd : x.due = st.now) :
    Core xs t (innerSt xs st x) ∧ muS (innerSt xs st x) < muS st := by
  obtain ⟨r, hr⟩ := cons_of_get hx
  obtain ⟨i, hi, e1, e2, e3⟩ := C.nx x (by rw [hr]; exact List.mem_cons_self)
  have hp := F.fair.p i hi
  have hlt := lt_due (P := Pf xs) (i := i) (t := t) hp
  rw [C.now] at hd
  have hm : t % Pf xs i = 0 := by
    rcases e3 with h | h
    · exact h.2
    · unfold duex at h; omega
  have hdu : duex xs i t = t + Pf xs i := due_of_mul hm
  have hB := F.ok i hi
  have hN := F.nat i hi
  have hlf : lfx xs t i = Bf xs i := by unfold lfx; rw [lf_eq, if_pos hm]
  have hni : x.need.toNat = i := by omega
  have hst : innerSt xs st x = ⟨st.now, st.row, upL (st.wait ++ [⟨x.need, (duex xs i t : Int), (lfx xs t i : Int)⟩]) st.wait.length, (downL (st.next.set 0 ⟨x.need, (duex xs i t : Int), 0⟩) 0 st.next.length).1⟩ := by
    unfold innerSt
    rw [hni, hN.1, hN.2, C.now, hd, e2, hdu, hlf]
    simp
  have hset : st.next.set 0 ⟨x.need, (duex xs i t : Int), 0⟩ = ⟨x.need, (duex xs i t : Int), 0⟩ :: r := by rw [hr]; rfl
  obtain ⟨u1, u2⟩ := push_heap st.wait ⟨x.need, (duex xs i t : Int), (lfx xs t i : Int)⟩ C.hw
  obtain ⟨v1, v2⟩ := fix_heap st.next ⟨x.need, (duex xs i t : Int), 0⟩ C.hn (by rw [hr]; simp)
  replace v2 := v2.trans (List.Perm.of_eq hset)
  rw [hst]
  generalize upL (st.wait ++ [⟨x.need, (duex xs i t : Int), (lfx xs t i : Int)⟩]) st.wait.length = wt at *
  generalize hnt : (downL (st.next.set 0 ⟨x.need, (duex xs i t : Int), 0⟩) 0 st.next.length).1 = nt at *
  have hnn := C.nn
  rw [hr] at hnn
  simp only [List.map_cons, List.nodup_cons] at hnn
  have memn : ∀ y, y ∈ nt ↔ y = ⟨x.need, (duex xs i t : Int), 0⟩ ∨ y ∈ r := fun y => by rw [v2.mem_iff, List.mem_cons]
  have memw : ∀ y, y ∈ wt ↔ y = ⟨x.need, (duex xs i t : Int), (lfx xs t i : Int)⟩ ∨ y ∈ st.wait := fun y => by rw [u2.mem_iff, List.mem_cons]
  have rn : ∀ y, y ∈ r → y.need ≠ x.need := fun y hy e => hnn.1 (List.mem_map.2 ⟨y, hy, e⟩)
  have wneed : ∀ y, y ∈ st.wait → y.need ≠ x.need := fun y hy e => by
    obtain ⟨j, hj, f1, f2, f3, f4, f5⟩ := C.wx y hy
    have := f5 x (by rw [hr]; exact List.mem_cons_self) (by omega)
    have : i = j := by omega
    subst this
    omega
  refine ⟨⟨C.now, C.row, ?_, ?_, ?_, ?_, ?_, ?_, ?_, ?_⟩, ?_⟩
  · show Heap wt wt.length
    rw [u2.length_eq]; exact u1
  · show Heap nt nt.length
    rw [v2.length_eq, show (⟨x.need, (duex xs i t : Int), 0⟩ :: r).length = st.next.length by rw [hr]; rfl]; exact v1
  · show (wt.map (·.need)).Nodup
    rw [(u2.map _).nodup_iff]
    simp only [List.map_cons, List.nodup_cons]
    exact ⟨fun hm => by obtain ⟨y, hy, e⟩ := List.mem_map.1 hm; exact wneed y hy e, C.wn⟩
  · show (nt.map (·.need)).Nodup
    rw [(v2.map _).nodup_iff]
    simp only [List.map_cons, List.nodup_cons]
    exact hnn
  · intro y hy
    rcases (memn y).1 hy with rfl | hy
    · exact ⟨i, hi, e1, rfl, .inr rfl⟩
    · exact C.nx y (by rw [hr]; exact List.mem_cons_of_mem _ hy)
  · intro j hj
    obtain ⟨y, hy, e⟩ := C.nall j hj
    rw [hr] at hy
    rcases List.mem_cons.1 hy with rfl | hy
    · exact ⟨_, (memn _).2 (.inl rfl), e⟩
    · exact ⟨y, (memn y).2 (.inr hy), e⟩
  · intro y hy
    rcases (memw y).1 hy with rfl | hy
    · refine ⟨i, hi, e1, rfl, rfl, by omega, fun z hz hze => ?_⟩
      rcases (memn z).1 hz with rfl | hz
      · rfl
      · exact absurd (by omega) (rn z hz)
    · obtain ⟨j, hj, f1, f2, f3, f4, f5⟩ := C.wx y hy
      refine ⟨j, hj, f1, f2, f3, f4, fun z hz hze => ?_⟩
      rcases (memn z).1 hz with rfl | hz
      · exact absurd (by rw [f1]; exact hze.symm) (wneed y hy)
      · exact f5 z (by rw [hr]; exact List.mem_cons_of_mem _ hz) hze
  · intro j hj hl hall
    by_cases e : j = i
    · subst e
      exact ⟨_, (memw _).2 (.inl rfl), e1⟩
    · obtain ⟨y, hy, ey⟩ := C.wall j hj hl (fun z hz hze => by
        rw [hr] at hz
        rcases List.mem_cons.1 hz with rfl | hz
        · omega
        · exact hall z ((memn z).2 (.inr hz)) hze)
      exact ⟨y, (memw y).2 (.inr hy), ey⟩
  · unfold muS
    simp only
    rw [v2.countP_eq, hr, List.countP_cons_of_neg (by rw [C.now]; simp; omega), List.countP_cons_of_pos (by rw [C.now]; simp; omega)]
    omega
end
end Go.Proofs.Ytenfikfgliljmaa.LA
/- lanes.earliest keeps to the earliest deadline first: time goes on. -/
namespace Go.Proofs.Ytenfikfgliljmaa.LA
open Go.Proofs.Ytenfikfgliljmaa.LT

theorem next_mult {P : Nat → Nat} {i t u : Nat} (hp : 0 < P i) (h : t < u) (hm : u % P i = 0) : LT.due P i t ≤ u := by
  unfold LT.due
  have h1 := Nat.div_add_mod u (P i)
  rw [hm, Nat.add_zero, Nat.mul_comm] at h1
  have h2 : t / P i < u / P i := by
    rw [Nat.div_lt_iff_lt_mul hp, h1]; exact h
  calc (t / P i + 1) * P i ≤ u / P i * P i := Nat.mul_le_mul_right _ h2
    _ = u := h1

theorem due_steady {P : Nat → Nat} {i t : Nat} (hp : 0 < P i) : ∀ m, (∀ u, t < u → u ≤ t + m → u % P i ≠ 0) → LT.due P i (t + m) = LT.due P i t
  | 0, _ => rfl
  | m + 1, h => by
    rw [show t + (m + 1) = (t + m) + 1 by omega, due_same hp (h _ (by omega) (by omega)), due_steady hp m fun u h1 h2 => h u h1 (by omega)]

section
variable {xs : List Need} {M : Nat}

/-- All is released, and nothing is released till U. -/
structure Quiet (xs : List Need) (t U : Nat) (st : St) : Prop where
  lt : t < U
  all : ∀ y, y ∈ st.next → ∃ i, i < xs.length ∧ y.need = (i : Int) ∧ y.due = (duex xs i t : Int)
  far : ∀ i, i < xs.length → U ≤ duex xs i t

theorem Quiet.rel {t U : Nat} {st : St} (F : Fit xs M) (Q : Quiet xs t U st) : ∀ i, i < xs.length → ∀ u, t < u → u < U → u % Pf xs i ≠ 0 := fun i hi u h1 h2 hm => by
  have := next_mult (F.fair.p i hi) h1 hm
  have := Q.far i hi
  unfold duex at this
  omega

/-- The state at a later tick of a quiet stretch. -/
theorem core_move (F : Fit xs M) {t U t' : Nat} {st : St} (C : Core xs t st) (Q : Quiet xs t U st) (ht : t < t') (hU : t' ≤ U) (hM : t' ≤ M) (wait' : List Job) (row' : List Slot)
    (hrow : row' = rowOf (whoF xs) t') (hw : Heap wait' wait'.length) (wn : (wait'.map (·.need)).Nodup)
    (hx : ∀ x, x ∈ wait' → ∃ i, i < xs.length ∧ x.need = (i : Int) ∧ x.due = (duex xs i t : Int) ∧ x.left = (pre (Pf xs) (Bf xs) xs.length t' i : Int) ∧ 0 < pre (Pf xs) (Bf xs) xs.length t' i)
    (hall : ∀ i, i < xs.length → 0 < pre (Pf xs) (Bf xs) xs.length t' i → ∃ x, x ∈ wait' ∧ x.need = (i : Int)) :
    Core xs t' ⟨(t' : Int), row', wait', st.next⟩ := by
  have same : ∀ i, i < xs.length → t' % Pf xs i ≠ 0 → duex xs i t' = duex xs i t := by
    intro i hi hm
    have := due_steady (P := Pf xs) (i := i) (t := t) (F.fair.p i hi) (t' - t) (fun u h1 h2 => by
      by_cases e : u = t'
      · rw [e]; exact hm
      · exact Q.rel F i hi u h1 (by omega))
    rw [show t + (t' - t) = t' by omega] at this
    exact this
  have at0 : ∀ i, i < xs.length → t' % Pf xs i = 0 → duex xs i t = t' := by
    intro i hi hm
    have h1 := next_mult (F.fair.p i hi) ht hm
    have h2 := Q.far i hi
    unfold duex at h2 ⊢
    omega
  have miss : ∀ i, i < xs.length → t' % Pf xs i = 0 → pre (Pf xs) (Bf xs) xs.length t' i = 0 := by
    intro i hi hm
    obtain ⟨s, rfl⟩ : ∃ s, t' = s + 1 := ⟨t' - 1, by omega⟩
    exact no_miss F.fair s (by omega) i hi hm
  have uniq : ∀ y, y ∈ st.next → ∀ i, i < xs.length → y.need = (i : Int) → y.due = (duex xs i t : Int) := by
    intro y hy i hi e
    obtain ⟨j, hj, e1, e2⟩ := Q.all y hy
    have : j = i := by omega
    rw [← this]; exact e2
  refine ⟨rfl, hrow, hw, C.hn, wn, C.nn, fun x hx' => ?_, C.nall, fun x hx' => ?_, fun i hi hl hd => ?_⟩
  · obtain ⟨i, hi, e1, e2, _⟩ := C.nx x hx'
    refine ⟨i, hi, e1, e2, ?_⟩
    have h3 := uniq x hx' i hi e1
    by_cases hm : t' % Pf xs i = 0
    · exact .inl ⟨by rw [h3, at0 i hi hm], hm⟩
    · exact .inr (by rw [h3, same i hi hm])
  · obtain ⟨i, hi, e1, e2, e3, e4⟩ := hx x hx'
    have hm : t' % Pf xs i ≠ 0 := fun hm => by have := miss i hi hm; omega
    have hlf : lfx xs t' i = pre (Pf xs) (Bf xs) xs.length t' i := by unfold lfx; rw [lf_eq, if_neg hm]
    refine ⟨i, hi, e1, by rw [same i hi hm]; exact e2, by rw [hlf]; exact e3, by rw [hlf]; exact e4, fun y hy e => ?_⟩
    rw [same i hi hm]; exact uniq y hy i hi e
  · have hm : t' % Pf xs i ≠ 0 := fun hm => by
      obtain ⟨y, hy, e⟩ := C.nall i hi
      have h1 := hd y hy e
      rw [uniq y hy i hi e, at0 i hi hm] at h1
      have := lt_due (P := Pf xs) (i := i) (t := t') (F.fair.p i hi)
      unfold duex at h1
      omega
    have hlf : lfx xs t' i = pre (Pf xs) (Bf xs) xs.length t' i := by unfold lfx; rw [lf_eq, if_neg hm]
    exact hall i hi (by omega)

theorem heap_left (z : Job) (r : List Job) (l : Int) (h : Heap (z :: r) (r.length + 1)) : Heap (⟨z.need, z.due, l⟩ :: r) (r.length + 1) := by
  have e : ∀ i, (at' (⟨z.need, z.due, l⟩ :: r) i).due = (at' (z :: r) i).due ∧ (at' (⟨z.need, z.due, l⟩ :: r) i).need = (at' (z :: r) i).need := fun i => by
    cases i with
    | zero => exact ⟨rfl, rfl⟩
    | succ i => exact ⟨rfl, rfl⟩
  intro i h1 h2
  have := h i h1 h2
  rw [leJ_iff] at this ⊢
  rw [(e i).1, (e i).2, (e _).1, (e _).2]
  exact this

theorem core_outer (F : Fit xs M) {t : Nat} {st : St} (C : Core xs t st) (ht : t < M) (hne : ∀ x, st.next[0]? = some x → x.due ≠ st.now) :
    ∃ t', t < t' ∧ t' ≤ M ∧ Core xs t' (outerSt xs M st) := by
  -- the stretch
  obtain ⟨U, hUn, hUM, Q⟩ : ∃ U : Nat, untilOf M st = (U : Int) ∧ U ≤ M ∧ Quiet xs t U st := by
    cases hx : st.next[0]? with
    | none =>
      have hnil : st.next = [] := List.length_eq_zero_iff.1 (Nat.le_zero.1 (List.getElem?_eq_none_iff.1 hx))
      have hn0 : ∀ i, ¬ i < xs.length := fun i hi => by obtain ⟨y, hy, _⟩ := C.nall i hi; rw [hnil] at hy; cases hy
      exact ⟨M, by unfold untilOf; rw [hx], Nat.le_refl _, ht, (fun y hy => by rw [hnil] at hy; cases hy), fun i hi => absurd hi (hn0 i)⟩
    | some x =>
      obtain ⟨r, hr⟩ := cons_of_get hx
      have hd := hne x hx
      rw [C.now] at hd
      have hxm : x ∈ st.next := by rw [hr]; exact List.mem_cons_self
      obtain ⟨i, hi, e1, e2, e3⟩ := C.nx x hxm
      have e4 : x.due = (duex xs i t : Int) := by rcases e3 with h | h; exact absurd h.1 hd; exact h
      have hlt := lt_due (P := Pf xs) (i := i) (t := t) (F.fair.p i hi)
      have root : ∀ y, y ∈ st.next → x.due ≤ y.due := by
        intro y hy
        obtain ⟨k, hk, rfl⟩ := List.mem_iff_getElem.1 hy
        have := C.hn.root k hk
        rw [at_getElem _ k hk, show at' st.next 0 = x by rw [hr]; rfl, leJ_iff] at this
        omega
      have hall : ∀ y, y ∈ st.next → ∃ i, i < xs.length ∧ y.need = (i : Int) ∧ y.due = (duex xs i t : Int) := by
        intro y hy
        obtain ⟨j, hj, f1, f2, f3⟩ := C.nx y hy
        refine ⟨j, hj, f1, ?_⟩
        rcases f3 with h | h
        · have := root y hy; unfold duex at e4; omega
        · exact h
      refine ⟨min M (duex xs i t), ?_, Nat.min_le_left _ _, ⟨by unfold duex; omega, hall, fun j hj => ?_⟩⟩
      · unfold untilOf; rw [hx]; simp only [e4]; omega
      · obtain ⟨y, hy, ey⟩ := C.nall j hj
        obtain ⟨j', hj', f1, f2⟩ := hall y hy
        have := root y hy
        have : j' = j := by omega
        subst this
        omega
  have hrel := Q.rel F
  cases hz : st.wait[0]? with
  | none =>
    have hnil : st.wait = [] := List.length_eq_zero_iff.1 (Nat.le_zero.1 (List.getElem?_eq_none_iff.1 hz))
    have hl0 : ∀ i, i < xs.length → lfx xs t i = 0 := fun i hi => by
      rcases Nat.eq_zero_or_pos (lfx xs t i) with h | h
      · exact h
      · obtain ⟨x, hx, _⟩ := C.wall i hi h (fun y hy e => by obtain ⟨j, hj, f1, f2⟩ := Q.all y hy; have : j = i := by omega
                                                             rw [← this]; exact f2)
        rw [hnil] at hx; cases hx
    obtain ⟨s1, s2⟩ := steady (P := Pf xs) (B := Bf xs) (n := xs.length) (w := none) (t := t) (U := U) (fun i hi => F.fair.p i hi) hrel (U - t) (by have := Q.lt; omega) (fun m _ => best_eq_none fun i hi => by have := hl0 i hi; unfold lfx at this; simp [this])
    have hUt := Q.lt
    refine ⟨U, hUt, hUM, ?_⟩
    have hst : outerSt xs M st = ⟨(U : Int), runL st.row ⟨#[]⟩ ((U - t : Nat) : Int), [], st.next⟩ := by
      unfold outerSt; rw [hz, hUn, C.now, hnil]
      rw [show ((U - t : Nat) : Int) = (U : Int) - t by omega]
    rw [hst]
    refine core_move F C Q hUt (Nat.le_refl _) hUM [] _ ?_ (fun i _ h => absurd h (Nat.not_lt_zero i)) List.nodup_nil (fun x hx => by cases hx) (fun i hi hp => ?_)
    · have := rowOf_run (whoF xs) ⟨#[]⟩ t (U - t) (by omega) (fun u h1 h2 => by
        unfold whoF
        have := (s1 (u - t) (by omega)).1
        rw [show t + (u - t) = u by omega] at this
        rw [this])
      rw [show t + (U - t) = U by omega] at this
      rw [C.row, this]
    · have := s2 (by omega) i hi
      rw [show t + (U - t) = U by omega] at this
      have h0 := hl0 i hi
      unfold lfx at h0
      rw [this] at hp
      simp only [h0] at hp
      omega
  | some z =>
    obtain ⟨r, hr⟩ := cons_of_get hz
    have hzm : z ∈ st.wait := by rw [hr]; exact List.mem_cons_self
    obtain ⟨iz, hiz, z1, z2, z3, z4, z5⟩ := C.wx z hzm
    have hUt := Q.lt
    obtain ⟨k, hk⟩ : ∃ k, k = min (lfx xs t iz) (U - t) := ⟨_, rfl⟩
    have hk0 : 0 < k := by omega
    have hwait : ∀ i, i < xs.length → 0 < lfx xs t i → ∃ x, x ∈ st.wait ∧ x.need = (i : Int) := fun i hi h => C.wall i hi h (fun y hy e => by
      obtain ⟨j, hj, f1, f2⟩ := Q.all y hy
      have : j = i := by omega
      rw [← this]; exact f2)
    obtain ⟨s1, s2⟩ := steady (P := Pf xs) (B := Bf xs) (n := xs.length) (w := some iz) (t := t) (U := U) (fun i hi => F.fair.p i hi) hrel k (by omega) (fun m hm => by
      refine best_eq hiz ?_ (fun i hi hl => ?_)
      · simp only [if_true]; unfold lfx at hk; omega
      · have hl2 : 0 < lfx xs t i := by unfold lfx; split at hl <;> omega
        obtain ⟨x, hx, ex⟩ := hwait i hi hl2
        obtain ⟨j, hj, f1, f2, _⟩ := C.wx x hx
        have hji : j = i := by omega
        subst hji
        obtain ⟨q, hq, rfl⟩ := List.mem_iff_getElem.1 hx
        have := C.hw.root q hq
        rw [at_getElem _ q hq, show at' st.wait 0 = z by rw [hr]; rfl, leJ_iff] at this
        unfold duex at z2 f2
        omega)
    have hpre := s2 hk0
    have hst : outerSt xs M st = ⟨((t + k : Nat) : Int), runL st.row (xs.getD iz .zero).subj (k : Int), if z.left - (k : Int) = 0 then (popL (⟨z.need, z.due, z.left - (k : Int)⟩ :: r)).dropLast else ⟨z.need, z.due, z.left - (k : Int)⟩ :: r, st.next⟩ := by
      unfold outerSt
      rw [hz, hUn, C.now]
      have hmin : min z.left ((U : Int) - t) = (k : Int) := by omega
      have hni : z.need.toNat = iz := by omega
      simp only [hmin, hni, hr, List.set_cons_zero]
      rw [show ((t + k : Nat) : Int) = (t : Int) + k by omega]
    rw [hst]
    refine ⟨t + k, by omega, by omega, ?_⟩
    have hwn := C.wn
    rw [hr] at hwn
    simp only [List.map_cons, List.nodup_cons] at hwn
    have rneed : ∀ y, y ∈ r → y.need ≠ z.need := fun y hy e => hwn.1 (List.mem_map.2 ⟨y, hy, e⟩)
    have rin : ∀ y, y ∈ r → ∃ i, i < xs.length ∧ y.need = (i : Int) ∧ y.due = (duex xs i t : Int) ∧ y.left = (pre (Pf xs) (Bf xs) xs.length (t + k) i : Int) ∧ 0 < pre (Pf xs) (Bf xs) xs.length (t + k) i := fun y hy => by
      obtain ⟨i, hi, f1, f2, f3, f4, _⟩ := C.wx y (by rw [hr]; exact List.mem_cons_of_mem _ hy)
      have hne2 : ¬ (some iz : Option Nat) = some i := fun e => by cases e; exact rneed y hy (by omega)
      have h6 := hpre i hi
      rw [if_neg hne2, Nat.sub_zero] at h6
      unfold lfx at f3 f4
      exact ⟨i, hi, f1, f2, by rw [h6]; exact f3, by rw [h6]; exact f4⟩
    have hh : Heap (z :: r) (r.length + 1) := by have := C.hw; rw [hr] at this; exact this
    have hh2 := heap_left z r (z.left - (k : Int)) hh
    have hpz := hpre iz hiz
    rw [if_pos rfl] at hpz
    have hrow : runL st.row (xs.getD iz .zero).subj (k : Int) = rowOf (whoF xs) (t + k) := by
      rw [C.row]
      exact rowOf_run (whoF xs) _ t k hk0 (fun u h1 h2 => by
        unfold whoF
        have := (s1 (u - t) (by omega)).1
        rw [show t + (u - t) = u by omega] at this
        rw [this])
    by_cases h0 : z.left - (k : Int) = 0
    · rw [if_pos h0]
      obtain ⟨p1, p2⟩ := pop_heap (⟨z.need, z.due, z.left - (k : Int)⟩ : Job) r hh2
      refine core_move F C Q (by omega) (by omega) (by omega) _ _ hrow (by rw [p2.length_eq]; exact p1) (by rw [(p2.map _).nodup_iff]; exact hwn.2) (fun x hx => rin x (p2.mem_iff.1 hx)) (fun i hi hp => ?_)
      have hiz2 : i ≠ iz := fun e => by subst e; unfold lfx at z3; omega
      have h6 := hpre i hi
      rw [if_neg (fun e => hiz2 (by cases e; rfl)), Nat.sub_zero] at h6
      obtain ⟨x, hx, ex⟩ := hwait i hi (by unfold lfx; omega)
      rw [hr] at hx
      rcases List.mem_cons.1 hx with rfl | hx
      · exact absurd (by omega) hiz2
      · exact ⟨x, p2.mem_iff.2 hx, ex⟩
    · rw [if_neg h0]
      refine core_move F C Q (by omega) (by omega) (by omega) _ _ hrow (by simpa using hh2) ?_ (fun x hx => ?_) (fun i hi hp => ?_)
      · simp only [List.map_cons, List.nodup_cons]; exact hwn
      · rcases List.mem_cons.1 hx with rfl | hx
        · exact ⟨iz, hiz, z1, z2, by simp only; rw [hpz, z3]; have e9 : lfx xs t iz = LT.lf (Pf xs) (Bf xs) xs.length t iz := rfl; omega, by have e9 : lfx xs t iz = LT.lf (Pf xs) (Bf xs) xs.length t iz := rfl; omega⟩
        · exact rin x hx
      · by_cases e : i = iz
        · subst e
          exact ⟨_, List.mem_cons_self, z1⟩
        · have h6 := hpre i hi
          rw [if_neg (fun e' => e (by cases e'; rfl)), Nat.sub_zero] at h6
          obtain ⟨x, hx, ex⟩ := hwait i hi (by unfold lfx; omega)
          rw [hr] at hx
          rcases List.mem_cons.1 hx with rfl | hx
          · exact absurd (by omega) e
          · exact ⟨x, List.mem_cons_of_mem _ hx, ex⟩

/-- What the walk of lanes.earliest asks for. -/
def edf (F : Fit xs M) : Edf xs (M : Int) where
  G := fun st => ∃ t, t ≤ M ∧ Core xs t st
  GI := fun st => ∃ t, t < M ∧ Core xs t st
  μ := muS
  init := ⟨0, Nat.zero_le _, core_init F⟩
  enter := fun st ⟨t, _, C⟩ h => ⟨t, by have := C.now; omega, C⟩
  bd := fun st ⟨t, h, C⟩ => core_bd F C h
  inner := fun st x ⟨t, h, C⟩ hx hd => ⟨⟨t, h, (core_inner F C x hx hd).1⟩, (core_inner F C x hx hd).2⟩
  outer := fun st ⟨t, h, C⟩ hne => by
    obtain ⟨t', h1, h2, C'⟩ := core_outer F C h hne
    exact ⟨⟨t', h2, C'⟩, by rw [C'.now, C.now]; omega⟩

/-- The end: the whole frame's row. -/
theorem edf_end (F : Fit xs M) {st : St} (h : (edf F).G st) (hM : (M : Int) ≤ st.now) : st.row = rowOf (whoF xs) M := by
  obtain ⟨t, h1, C⟩ := h
  have := C.now
  have : t = M := by omega
  subst this
  exact C.row
end
end Go.Proofs.Ytenfikfgliljmaa.LA
/- What Flatten answers, plain. -/
namespace Go.Proofs.Ytenfikfgliljmaa.LA
open Go.Proofs.Ytenfikfgliljmaa.LT

/-- The runs one behind the other: the first that is refused, or what they want together. -/
def checkL (major : Int) (needs : Bool) : List Need → Int → Int → Except (Int × Int) Int
  | [], _, s => .ok s
  | x :: r, i, s =>
    if wrongC major x needs ≠ 0 then .error (i, wrongC major x needs)
    else if major < s + wantsC major x needs then .error (i, 93)
    else checkL major needs r (i + 1) (s + wantsC major x needs)

def sumW (major : Int) (needs : Bool) : List Need → Int
  | [] => 0
  | x :: r => wantsC major x needs + sumW major needs r

theorem check_ok {major : Int} {needs : Bool} : ∀ {xs : List Need} {i s t : Int}, checkL major needs xs i s = .ok t → t = s + sumW major needs xs ∧ (∀ x, x ∈ xs → wrongC major x needs = 0) ∧ (s ≤ major → t ≤ major)
  | [], i, s, t, h => by
    simp only [checkL, Except.ok.injEq] at h
    subst h
    exact ⟨by simp [sumW], (fun x hx => by cases hx), fun h => h⟩
  | x :: r, i, s, t, h => by
    simp only [checkL] at h
    split at h
    · cases h
    · rename_i h1
      split at h
      · cases h
      · rename_i h2
        obtain ⟨a, b, c⟩ := check_ok h
        refine ⟨by simp only [sumW]; omega, fun y hy => ?_, fun _ => c (by omega)⟩
        rcases List.mem_cons.1 hy with rfl | hy
        · omega
        · exact b y hy

/-- The runs one behind the other, as slots. -/
def runsRow (xs : List Need) : List Slot := xs.foldl (fun ys x => runL ys x.subj x.budget) []
theorem runsRow_snoc (xs : List Need) (x : Need) : runsRow (xs ++ [x]) = runL (runsRow xs) x.subj x.budget := by simp [runsRow]

theorem endL_runsRow (major : Int) (xs : List Need) : endL (runsRow xs) = sumW major false xs := by
  have key : ∀ (xs : List Need) (ys : List Slot), endL (xs.foldl (fun ys x => runL ys x.subj x.budget) ys) = endL ys + sumW major false xs := by
    intro xs
    induction xs with
    | nil => intro ys; simp [sumW]
    | cons x r ih => intro ys; rw [List.foldl_cons, ih, endL_runL]; simp only [sumW, wantsC, Bool.false_eq_true, if_false]; omega
  have := key xs []
  rw [show endL [] = 0 from rfl] at this
  unfold runsRow; omega
theorem length_runsRow (xs : List Need) : (runsRow xs).length ≤ xs.length := by
  have key : ∀ (xs : List Need) (ys : List Slot), (xs.foldl (fun ys x => runL ys x.subj x.budget) ys).length ≤ ys.length + xs.length := by
    intro xs
    induction xs with
    | nil => intro ys; simp
    | cons x r ih => intro ys; rw [List.foldl_cons]; have h1 := ih (runL ys x.subj x.budget); have h2 := length_runL ys x.subj x.budget; rw [List.length_cons]; omega
  have := key xs []
  unfold runsRow; simpa using this

/-- Nobody up to the frame's end. -/
def fillRow (major : Int) (ys : List Slot) : List Slot := if endL ys < major then runL ys ⟨#[]⟩ (major - endL ys) else ys

/-- A lane's row. -/
def flatRow (major : Int) (xs : List Need) (needs : Bool) : List Slot :=
  fillRow major (if needs = true then rowOf (whoF xs) major.toNat else runsRow xs)

/-- What Flatten answers once the runs are looked at. -/
def flatE (major : Int) (xs : List Need) (needs : Bool) : Except (Int × Int) Int → List Slot × Int × Int
  | .error p => ([], p.1, p.2)
  | .ok _ => if 4096 < (flatRow major xs needs).length then ([], -1, 4) else (flatRow major xs needs, 0, 0)

/-- What Flatten answers: the slots (none, if it refuses), the place, the number. -/
def flatL (major : Int) (xs : List Need) (needs : Bool) : List Slot × Int × Int :=
  if major < 1 ∨ 65536 < major then ([], -1, 92) else flatE major xs needs (checkL major needs xs 0 0)

theorem sumW_nonneg {major : Int} {needs : Bool} : ∀ {xs : List Need}, (∀ x, x ∈ xs → 0 ≤ wantsC major x needs) → 0 ≤ sumW major needs xs
  | [], _ => Int.le_refl 0
  | x :: r, h => by
    have := h x List.mem_cons_self
    have := sumW_nonneg (xs := r) (major := major) (needs := needs) fun y hy => h y (List.mem_cons_of_mem _ hy)
    simp only [sumW]; omega

theorem sumW_append {major : Int} {needs : Bool} : ∀ (a b : List Need), sumW major needs (a ++ b) = sumW major needs a + sumW major needs b
  | [], b => by simp [sumW]
  | x :: r, b => by simp only [List.cons_append, sumW, sumW_append r b]; omega

theorem wants_pos {major : Int} {x : Need} {needs : Bool} (h : RightIn major x needs) : 1 ≤ wantsC major x needs := by
  unfold wantsC
  split
  · rename_i hn
    obtain ⟨h1, h2, h3, h4, h5⟩ := h.per hn
    have h6 : 1 ≤ major / x.period := by
      have := Int.mul_ediv_cancel' (Int.dvd_of_emod_eq_zero h4)
      by_cases h : major / x.period < 1
      · exfalso
        have : x.period * (major / x.period) ≤ 0 := Int.mul_nonpos_of_nonneg_of_nonpos (by omega) (by omega)
        omega
      · omega
    have := h.pos
    calc (1 : Int) = 1 * 1 := by omega
      _ ≤ x.budget * (major / x.period) := Int.mul_le_mul this h6 (by omega) (by omega)
  · exact h.pos

/-- What stands at one of so many wants no more than all. -/
theorem sumW_len {major : Int} {needs : Bool} : ∀ {xs : List Need}, (∀ x, x ∈ xs → 1 ≤ wantsC major x needs) → (xs.length : Int) ≤ sumW major needs xs
  | [], _ => Int.le_refl 0
  | x :: r, h => by
    have := h x List.mem_cons_self
    have := sumW_len (xs := r) (major := major) (needs := needs) fun y hy => h y (List.mem_cons_of_mem _ hy)
    simp only [sumW, List.length_cons]; omega

theorem sumN_sumW (M : Nat) (xs : List Need) (h : ∀ i, i < xs.length → (xs.getD i .zero).period = (Pf xs i : Int) ∧ (xs.getD i .zero).budget = (Bf xs i : Int)) :
    ∀ k, k ≤ xs.length → (sumN (fun i => Bf xs i * (M / Pf xs i)) k : Int) = sumW M true (xs.take k) := by
  intro k
  induction k with
  | zero => intro _; simp [sumN, sumW]
  | succ k ih =>
    intro hk
    have e : xs.take (k + 1) = xs.take k ++ [xs.getD k .zero] := by
      rw [List.take_succ_eq_append_getElem (by omega)]; simp [List.getD, show k < xs.length by omega]
    rw [e, sumW_append, sumN, Int.natCast_add, ih (by omega)]
    simp only [sumW, wantsC, if_true, Int.add_zero]
    rw [(h k (by omega)).1, (h k (by omega)).2]
    simp

theorem fit_of_check {major : Int} {xs : List Need} {s : Int} (hm : 1 ≤ major) (hm2 : major ≤ 65536) (hok : ∀ x, x ∈ xs → x.ok) (h : checkL major true xs 0 0 = .ok s) : Fit xs major.toNat := by
  obtain ⟨a, b, c⟩ := check_ok h
  have hs := c (by omega)
  have hr : ∀ x, x ∈ xs → RightIn major x true := fun x hx => right_in (hok x hx) (b x hx)
  have hlen := sumW_len (major := major) (needs := true) (xs := xs) fun x hx => wants_pos (hr x hx)
  have hmem : ∀ i, i < xs.length → xs.getD i .zero ∈ xs := fun i hi => by
    rw [show xs.getD i .zero = xs[i] by simp [List.getD, hi]]; exact List.getElem_mem hi
  have hnat : ∀ i, i < xs.length → (xs.getD i .zero).period = (Pf xs i : Int) ∧ (xs.getD i .zero).budget = (Bf xs i : Int) := fun i hi => by
    have := hok _ (hmem i hi)
    unfold Pf Bf
    have := this.p0; have := (hok _ (hmem i hi)).b0
    omega
  refine ⟨by omega, by omega, by omega, fun i hi => ?_, hnat, ?_⟩
  · obtain ⟨h1, h2, h3⟩ := hr _ (hmem i hi)
    obtain ⟨h4, h5, h6, h7, h8⟩ := h3 rfl
    obtain ⟨n1, n2⟩ := hnat i hi
    refine ⟨by omega, by omega, by omega, ?_⟩
    have h9 : ((major.toNat % Pf xs i : Nat) : Int) = major % (Pf xs i : Int) := by
      rw [Int.natCast_emod, Int.toNat_of_nonneg (by omega)]
    rw [n1] at h7
    omega
  · have := sumN_sumW major.toNat xs hnat xs.length (Nat.le_refl _)
    rw [List.take_length, Int.toNat_of_nonneg (by omega)] at this
    omega
end Go.Proofs.Ytenfikfgliljmaa.LA
/- Ticks of one subject, a few and a few more; plain. -/
namespace Go.Proofs.Ytenfikfgliljmaa.LA
theorem runL_add (ys : List Slot) (s : ByteArray) (a b : Int) : runL (runL ys s a) s b = runL ys s (a + b) := by
  rcases List.eq_nil_or_concat ys with rfl | ⟨zs, y, rfl⟩
  · rw [runL_nil, runL_nil]
    have := runL_concat [] ⟨s, 0, a⟩ s b
    simpa using this
  · rw [List.concat_eq_append, runL_concat, runL_concat]
    by_cases h : (y.subj.toList == s.toList) = true
    · rw [if_pos h, if_pos h, runL_concat, if_pos h, Int.add_assoc]
    · rw [if_neg h, if_neg h, runL_concat, if_pos (by simp), Int.add_assoc]

/-- So many single ticks. -/
def tickN (s : ByteArray) : Nat → List Slot → List Slot
  | 0, ys => ys
  | n + 1, ys => tickN s n (runL ys s 1)
theorem tickN_eq (s : ByteArray) : ∀ (n : Nat) (ys : List Slot), tickN s (n + 1) ys = runL ys s (n + 1 : Nat)
  | 0, ys => rfl
  | n + 1, ys => by
    rw [tickN, tickN_eq s n, runL_add]
    congr 1
    omega
end Go.Proofs.Ytenfikfgliljmaa.LA
/- The ticks of a lane without needs, and the row that comes of them; plain. -/
namespace Go.Proofs.Ytenfikfgliljmaa.LA
/-- Whose a tick is, by name. -/
def nameOf (xs : List Need) (i : Int) : ByteArray := if i < 0 then ⟨#[]⟩ else (xs.getD i.toNat .zero).subj
/-- The row that comes of ticks. -/
def rowT (xs : List Need) (ys : List Slot) (ts : List Int) : List Slot := ts.foldl (fun ys i => runL ys (nameOf xs i) 1) ys
theorem rowT_append (xs : List Need) (ys : List Slot) (a b : List Int) : rowT xs ys (a ++ b) = rowT xs (rowT xs ys a) b := List.foldl_append
theorem rowT_rep (xs : List Need) (i : Int) : ∀ (n : Nat) (ys : List Slot), rowT xs ys (List.replicate n i) = tickN (nameOf xs i) n ys
  | 0, _ => rfl
  | n + 1, ys => by rw [List.replicate_succ]; exact rowT_rep xs i n _

/-- The ticks of runs, one behind the other, from place k on. -/
def runsTicks : Nat → List Need → List Int
  | _, [] => []
  | k, x :: r => List.replicate x.budget.toNat (k : Int) ++ runsTicks (k + 1) r

theorem rowT_runs (all : List Need) : ∀ (r : List Need) (k : Nat) (ys : List Slot), r = all.drop k → (∀ x, x ∈ r → 1 ≤ x.budget) → rowT all ys (runsTicks k r) = r.foldl (fun ys x => runL ys x.subj x.budget) ys
  | [], _, _, _, _ => rfl
  | x :: r, k, ys, h, hp => by
    have hk : k < all.length := by
      by_cases c : k < all.length
      · exact c
      · rw [List.drop_eq_nil_of_le (by omega)] at h; cases h
    rw [List.drop_eq_getElem_cons hk] at h
    obtain ⟨h1, h2⟩ := List.cons.inj h
    have hn : nameOf all (k : Int) = x.subj := by
      unfold nameOf
      rw [if_neg (by omega), h1]
      simp [List.getD, hk]
    have hb := hp x List.mem_cons_self
    obtain ⟨n, hn2⟩ : ∃ n, x.budget.toNat = n + 1 := ⟨x.budget.toNat - 1, by omega⟩
    rw [runsTicks, rowT_append, rowT_rep, hn, hn2, tickN_eq, rowT_runs all r (k + 1) _ h2 (fun y hy => hp y (List.mem_cons_of_mem _ hy)), List.foldl_cons]
    rw [show ((n + 1 : Nat) : Int) = x.budget by omega]
end Go.Proofs.Ytenfikfgliljmaa.LA
/- The ticks of a lane; the row that comes of them is flatRow; plain. -/
namespace Go.Proofs.Ytenfikfgliljmaa.LA
/-- Whose the tick t is, by number. -/
def whoI (xs : List Need) (t : Nat) : Int := match LT.who (Pf xs) (Bf xs) xs.length t with
  | none => -1
  | some i => i
/-- The ticks of a lane that is right. -/
def ticksL (M : Nat) (xs : List Need) (needs : Bool) : List Int :=
  if needs = true then (List.range M).map (whoI xs) else runsTicks 0 xs ++ List.replicate (M - (runsTicks 0 xs).length) (-1)

theorem name_who (xs : List Need) (t : Nat) : nameOf xs (whoI xs t) = whoF xs t := by
  unfold whoI whoF
  cases LT.who (Pf xs) (Bf xs) xs.length t with
  | none => rfl
  | some i => simp only [nameOf]; rw [if_neg (by omega)]; simp
theorem rowT_who (xs : List Need) : ∀ M : Nat, rowT xs [] ((List.range M).map (whoI xs)) = rowOf (whoF xs) M
  | 0 => rfl
  | M + 1 => by
    rw [List.range_succ, List.map_append, rowT_append, rowT_who xs M]
    show runL (rowOf (whoF xs) M) (nameOf xs (whoI xs M)) 1 = _
    rw [name_who]; rfl
theorem runsTicks_len : ∀ (xs : List Need) (k : Nat) (major : Int), (∀ x, x ∈ xs → 1 ≤ x.budget) → ((runsTicks k xs).length : Int) = sumW major false xs
  | [], _, _, _ => rfl
  | x :: r, k, major, h => by
    have := h x List.mem_cons_self
    rw [runsTicks, List.length_append, List.length_replicate]
    have ih := runsTicks_len r (k + 1) major fun y hy => h y (List.mem_cons_of_mem _ hy)
    simp only [sumW, wantsC, Bool.false_eq_true, if_false]
    omega
theorem rowT_ticks {M : Nat} {xs : List Need} {needs : Bool} (hp : ∀ x, x ∈ xs → 1 ≤ x.budget) (hs : needs = false → sumW M false xs ≤ M) : rowT xs [] (ticksL M xs needs) = flatRow M xs needs := by
  unfold ticksL flatRow
  cases needs with
  | true =>
    rw [if_pos rfl, if_pos rfl, rowT_who, fillRow, Int.toNat_natCast, endL_rowOf, if_neg (by omega)]
  | false =>
    rw [if_neg (by simp), if_neg (by simp), rowT_append, rowT_runs xs xs 0 [] rfl hp, rowT_rep, fillRow]
    have hl := runsTicks_len xs 0 M hp
    have he := endL_runsRow M xs
    have hs' := hs rfl
    show tickN (nameOf xs (-1)) _ (runsRow xs) = _
    by_cases c : endL (runsRow xs) < M
    · obtain ⟨n, hn⟩ : ∃ n, M - (runsTicks 0 xs).length = n + 1 := ⟨M - (runsTicks 0 xs).length - 1, by omega⟩
      rw [if_pos c, hn, tickN_eq]
      rw [show ((n + 1 : Nat) : Int) = (M : Int) - endL (runsRow xs) by omega]
      rfl
    · rw [if_neg c, show M - (runsTicks 0 xs).length = 0 by omega]; rfl
end Go.Proofs.Ytenfikfgliljmaa.LA
/- The row that comes of ticks, one tick more; which numbers the ticks bear; the row in memory, one tick more; plain. -/
namespace Go.Proofs.Ytenfikfgliljmaa.LA
open Go.RowKit
theorem best_lt {l d : Nat → Nat} {n b : Nat} (h : LT.best l d n = some b) : b < n := (LT.best_some h).1
theorem ticks_in {M : Nat} {xs : List Need} {needs : Bool} : ∀ i, i ∈ ticksL M xs needs → i = -1 ∨ ∃ n : Nat, n < xs.length ∧ i = (n : Int) := by
  intro i hi
  unfold ticksL at hi
  split at hi
  · obtain ⟨t, _, rfl⟩ := List.mem_map.1 hi
    unfold whoI
    cases h : LT.who (Pf xs) (Bf xs) xs.length t with
    | none => exact .inl rfl
    | some b => exact .inr ⟨b, best_lt h, rfl⟩
  · rcases List.mem_append.1 hi with hi | hi
    · have key : ∀ (r : List Need) (k : Nat), k + r.length = xs.length → ∀ i, i ∈ runsTicks k r → ∃ n : Nat, n < xs.length ∧ i = (n : Int) := by
        intro r
        induction r with
        | nil => intro k _ i hi; cases hi
        | cons x r ih =>
          intro k hk i hi
          rw [List.length_cons] at hk
          rw [runsTicks] at hi
          rcases List.mem_append.1 hi with hi | hi
          · exact ⟨k, by omega, List.eq_of_mem_replicate hi⟩
          · exact ih (k + 1) (by omega) i hi
      exact .inr (key xs 0 (by omega) i hi)
    · exact .inl (List.eq_of_mem_replicate hi)
theorem rowT_take {xs : List Need} {T : List Int} {t : Nat} (h : t < T.length) : rowT xs [] (T.take (t + 1)) = runL (rowT xs [] (T.take t)) (nameOf xs T[t]) 1 := by
  rw [List.take_succ_eq_append_getElem h, rowT_append]; rfl
theorem endL_rowT (xs : List Need) : ∀ (T : List Int) (ys : List Slot), endL (rowT xs ys T) = endL ys + T.length
  | [], ys => by simp [rowT]
  | i :: T, ys => by
    have := endL_rowT xs T (runL ys (nameOf xs i) 1)
    rw [endL_runL] at this
    show endL (rowT xs (runL ys (nameOf xs i) 1) T) = _
    rw [this, List.length_cons]; omega
theorem endL_rowT_take (xs : List Need) (T : List Int) (t : Nat) (h : t ≤ T.length) : endL (rowT xs [] (T.take t)) = t := by
  rw [endL_rowT, List.length_take]; simp [endL, Slot.zero]; omega
theorem length_rowT (xs : List Need) : ∀ (T : List Int) (ys : List Slot), (rowT xs ys T).length ≤ ys.length + T.length
  | [], ys => by simp [rowT]
  | i :: T, ys => by
    have h1 := length_rowT xs T (runL ys (nameOf xs i) 1)
    have h2 := length_runL ys (nameOf xs i) 1
    show (rowT xs (runL ys (nameOf xs i) 1) T).length ≤ _
    rw [List.length_cons]; omega
theorem ticks_len {M : Nat} {xs : List Need} {needs : Bool} (hp : ∀ x, x ∈ xs → 1 ≤ x.budget) (hs : needs = false → sumW M false xs ≤ M) : (ticksL M xs needs).length = M := by
  unfold ticksL
  cases needs with
  | true => simp
  | false =>
    have h := runsTicks_len xs 0 M hp
    have h2 := hs rfl
    simp; omega
end Go.Proofs.Ytenfikfgliljmaa.LA
/- A row of numbers that grows, beside a lane that was handed in: memory of the reference's Ticks; plain. -/
namespace Go.Proofs.Ytenfikfgliljmaa.LA
open Go.RowKit
abbrev intV (i : Int) : Value := .int .i64 i
/-- A row of numbers of its own. -/
def IOwn (w : World) (B g cap : Nat) (L : List Int) : Prop := w.ownsRow B 3 1 (.slice (some ⟨g, 0, none⟩) L.length cap) L.length (L.map intV)
theorem IOwn.cellAt {w : World} {B g cap : Nat} {L : List Int} (h : IOwn w B g cap L) (i : Nat) (hi : i < L.length) : w.cell? ⟨g, i, none⟩ = some (.int .i64 L[i]) := by
  have := World.ownsRow.cellAt h i (by omega)
  rw [this]; simp [hi]
theorem IOwn.row {w : World} {B g cap : Nat} {L : List Int} (h : IOwn w B g cap L) : B ≤ g ∧ ∃ cur, Row w g 3 cur ∧ cur.size = cap ∧ L.length ≤ cap := by
  rcases h.2 with ⟨h1, _⟩ | ⟨g', cap', cur, hv, hb, hg, h2, h3, h4, h5⟩
  · cases h1
  · obtain ⟨rfl, rfl⟩ : g' = g ∧ cap' = cap := by simpa using hv.symm
    exact ⟨hb, cur, hg, by omega, h2⟩
theorem IOwn.lt {w : World} {B g cap : Nat} {L : List Int} (h : IOwn w B g cap L) : g < w.heap.size := by
  obtain ⟨_, cur, hr, _⟩ := h.row; exact hr.lt
theorem IOwn.other {w w' : World} {B g cap : Nat} {L : List Int} (h : IOwn w B g cap L) (hb : w'.heap[g]? = w.heap[g]?) : IOwn w' B g cap L := by
  refine ⟨h.1, ?_⟩
  rcases h.2 with h1 | ⟨g', cap', cur, hv, hb', hg, h2⟩
  · exact .inl h1
  · obtain ⟨rfl, rfl⟩ : g' = g ∧ cap' = cap := by simpa using hv.symm
    exact .inr ⟨g', cap', cur, hv, hb', hb.trans hg, h2⟩
/-- The state of Ticks' row: W as the call began, w now. -/
structure TkAt (W w : World) (cs : Array Value) (g cap : Nat) (L : List Int) : Prop where
  own : IOwn w (W.heap.size + 1) g cap L
  box : Row w W.heap.size 31 cs
  below : Below W.heap.size W w
/-- One number behind the row. -/
theorem TkAt.app {W w w2 : World} {cs : Array Value} {g cap g2 cap2 : Nat} {L : List Int} {i : Int} (h : TkAt W w cs g cap L)
    (hown : w2.ownsRow (W.heap.size + 1) 3 1 (.slice (some ⟨g2, 0, none⟩) (L.length + 1) cap2) (L.length + 1) (L.map intV ++ [intV i]))
    (hgrow : (w.alloc (.cells #[intV i] 3)).grownBy w2 (Value.slice (some ⟨g, 0, none⟩) L.length cap).ownBlock) :
    TkAt W w2 cs g2 cap2 (L ++ [i]) := by
  have hg := h.own.row.1
  have hB := h.box.lt
  refine ⟨?_, ?_, ?_⟩
  · unfold IOwn; rw [List.length_append, List.map_append]; exact hown
  · exact (hgrow.block _ (by simp; omega) (by simp [Value.ownBlock]; omega)).trans (h.box.alloc _)
  · exact (h.below.alloc (by omega) _).grown hgrow (by simp; omega) (by simp [Value.ownBlock]; omega)
/-- Some other block is made, or one that is neither the row nor the box. -/
theorem TkAt.upd {W w w2 : World} {cs : Array Value} {g cap : Nat} {L : List Int} {S : Nat → Prop} (h : TkAt W w cs g cap L) (hu : Upd S w w2) (hS : ∀ b, S b → W.heap.size < b) (hg : ¬ S g) : TkAt W w2 cs g cap L := by
  have hl := h.own.lt
  refine ⟨h.own.other (hu.block _ hl hg), hu.row h.box (fun e => by have := hS _ e; omega), h.below.trans (hu.below (fun b hb => by have := hS b hb; omega) h.below.size)⟩
end Go.Proofs.Ytenfikfgliljmaa.LA
/- The memory of the reference's Ticks of needs: the row of ticks, what is left, what is due; plain. -/
namespace Go.Proofs.Ytenfikfgliljmaa.LA
open Go.RowKit
open Go.Proofs.Ytenfikfgliljmaa.LT
/-- A row of so many numbers. -/
def NAt (w : World) (g n : Nat) (f : Nat → Nat) : Prop := ∃ cur, Row w g 3 cur ∧ cur.size = n ∧ ∀ i, i < n → cur[i]? = some (.int .i64 (f i : Nat))
theorem NAt.cell {w : World} {g n : Nat} {f : Nat → Nat} (h : NAt w g n f) (i : Nat) (hi : i < n) : w.cell? ⟨g, i, none⟩ = some (.int .i64 (f i : Nat)) := by
  obtain ⟨cur, hr, _, hc⟩ := h; exact hr.cell (hc i hi)
theorem NAt.frozen {w : World} {g n : Nat} {f : Nat → Nat} (h : NAt w g n f) (i : Nat) : w.frozen? ⟨g, i, none⟩ = false := by
  obtain ⟨cur, hr, _, hc⟩ := h; exact hr.frozen i
theorem NAt.lt {w : World} {g n : Nat} {f : Nat → Nat} (h : NAt w g n f) : g < w.heap.size := by
  obtain ⟨cur, hr, _, hc⟩ := h; exact hr.lt
theorem NAt.upd {w w' : World} {g n : Nat} {f : Nat → Nat} {S : Nat → Prop} (h : NAt w g n f) (hu : Upd S w w') (hS : ¬ S g) : NAt w' g n f := by
  obtain ⟨cur, hr, h2⟩ := h; exact ⟨cur, hu.row hr hS, h2⟩
theorem NAt.set {w : World} {g n : Nat} {f f' : Nat → Nat} (h : NAt w g n f) (i : Nat) (v : Int) (hi : i < n) (hv : v = (f' i : Nat)) (hf : ∀ j, j < n → j ≠ i → f' j = f j) : NAt (w.setCell ⟨g, i, none⟩ (.int .i64 v)) g n f' := by
  obtain ⟨cur, hr, hs, hc⟩ := h
  refine ⟨_, hr.setCell i _, by simpa using hs, fun j hj => ?_⟩
  rw [Array.getElem?_setIfInBounds]
  by_cases e : i = j
  · subst e; rw [if_pos rfl, if_pos (by omega), hv]
  · rw [if_neg e, hf j hj (fun h => e h.symm)]; exact hc j hj
theorem NAt.cong {w : World} {g n : Nat} {f f' : Nat → Nat} (h : NAt w g n f) (hf : ∀ j, j < n → f' j = f j) : NAt w g n f' := by
  obtain ⟨cur, hr, hs, hc⟩ := h
  exact ⟨cur, hr, hs, fun i hi => by rw [hf i hi]; exact hc i hi⟩
theorem NAt.make {w : World} {B g n : Nat} (h : w.ownsRow B 3 1 (.slice (some ⟨g, 0, none⟩) n n) n (madeCells (Value.int .i64 0).cells (n * 1)).toList) : B ≤ g ∧ NAt w g n (fun _ => 0) := by
  have hc : ∀ i, i < n → w.cell? ⟨g, i, none⟩ = some (.int .i64 0) := fun i hi => by
    have := World.ownsRow.cellAt h i (by omega)
    rw [this]
    simp [madeCells, Value.cells, hi, Nat.mod_one]
  rcases h.2 with ⟨h1, _⟩ | ⟨g', cap', cur, hv, hb, hg, h2, h3, h4, h5⟩
  · cases h1
  · obtain ⟨rfl, rfl⟩ : g' = g ∧ cap' = n := by simpa using hv.symm
    refine ⟨hb, cur, hg, by omega, fun i hi => ?_⟩
    have := hc i hi
    rw [cell_of_row w g' i cur 3 (0, 0) hg] at this
    simpa using this

/-- The state: the row of ticks, what is left, what is due. -/
structure TsAt (W w : World) (cs : Array Value) (g cap : Nat) (L : List Int) (gl gd n : Nat) (fl fd : Nat → Nat) : Prop where
  tk : TkAt W w cs g cap L
  l : NAt w gl n fl
  d : NAt w gd n fd
  bl : W.heap.size < gl
  bd : W.heap.size < gd
  ld : gl ≠ gd
  gl' : g ≠ gl
  gd' : g ≠ gd
section
variable {W w : World} {cs : Array Value} {g cap : Nat} {L : List Int} {gl gd n : Nat} {fl fd : Nat → Nat}
theorem TsAt.setL (h : TsAt W w cs g cap L gl gd n fl fd) {fl' : Nat → Nat} (i : Nat) (v : Int) (hi : i < n) (hv : v = (fl' i : Nat)) (hf : ∀ j, j < n → j ≠ i → fl' j = fl j) : TsAt W (w.setCell ⟨gl, i, none⟩ (.int .i64 v)) cs g cap L gl gd n fl' fd :=
  { h with tk := h.tk.upd (Upd.setCell w ⟨gl, i, none⟩ _ (S := (· = gl)) rfl) (fun b e => by rw [e]; exact h.bl) h.gl', l := h.l.set i v hi hv hf, d := h.d.upd (Upd.setCell w ⟨gl, i, none⟩ _ (S := (· = gl)) rfl) (fun e => h.ld e.symm) }
theorem TsAt.setD (h : TsAt W w cs g cap L gl gd n fl fd) {fd' : Nat → Nat} (i : Nat) (v : Int) (hi : i < n) (hv : v = (fd' i : Nat)) (hf : ∀ j, j < n → j ≠ i → fd' j = fd j) : TsAt W (w.setCell ⟨gd, i, none⟩ (.int .i64 v)) cs g cap L gl gd n fl fd' :=
  { h with tk := h.tk.upd (Upd.setCell w ⟨gd, i, none⟩ _ (S := (· = gd)) rfl) (fun b e => by rw [e]; exact h.bd) h.gd', d := h.d.set i v hi hv hf, l := h.l.upd (Upd.setCell w ⟨gd, i, none⟩ _ (S := (· = gd)) rfl) h.ld }
theorem TsAt.drewN (h : TsAt W w cs g cap L gl gd n fl fd) (k : Nat) : TsAt W (w.drewN k) cs g cap L gl gd n fl fd :=
  { h with tk := h.tk.upd (Upd.drewN w k (S := fun _ => False)) (fun _ e => e.elim) (fun e => e), l := h.l.upd (Upd.drewN w k (S := fun _ => False)) (fun e => e), d := h.d.upd (Upd.drewN w k (S := fun _ => False)) (fun e => e) }
theorem TsAt.cong (h : TsAt W w cs g cap L gl gd n fl fd) {fl' fd' : Nat → Nat} (hl : ∀ j, j < n → fl' j = fl j) (hd : ∀ j, j < n → fd' j = fd j) : TsAt W w cs g cap L gl gd n fl' fd' :=
  { h with l := h.l.cong hl, d := h.d.cong hd }
theorem TsAt.app (h : TsAt W w cs g cap L gl gd n fl fd) {w2 : World} {g2 cap2 : Nat} {i : Int}
    (hown : w2.ownsRow (W.heap.size + 1) 3 1 (.slice (some ⟨g2, 0, none⟩) (L.length + 1) cap2) (L.length + 1) (L.map intV ++ [intV i]))
    (hgrow : (w.alloc (.cells #[intV i] 3)).grownBy w2 (Value.slice (some ⟨g, 0, none⟩) L.length cap).ownBlock)
    (hat : (Value.slice (some ⟨g, 0, none⟩) L.length cap).ownBlock = some g2 ∨ g2 = w.heap.size + 1) : TsAt W w2 cs g2 cap2 (L ++ [i]) gl gd n fl fd := by
  have hl := h.l.lt
  have hd := h.d.lt
  have hu : Upd (· = g) w w2 := (Upd.alloc w _).trans (Upd.of_grownBy (S := (· = g)) hgrow (fun b e => by simpa [Value.ownBlock] using e.symm)) (fun b e => .inl e)
  have h2 : g2 = g ∨ g2 = w.heap.size + 1 := by
    rcases hat with e | e
    · exact .inl (by simpa [Value.ownBlock] using e.symm)
    · exact .inr e
  exact { tk := h.tk.app hown hgrow, l := h.l.upd hu (fun e => h.gl' e.symm), d := h.d.upd hu (fun e => h.gd' e.symm), bl := h.bl, bd := h.bd, ld := h.ld, gl' := by rcases h2 with e | e; rw [e]; exact h.gl'; omega, gd' := by rcases h2 with e | e; rw [e]; exact h.gd'; omega }
end

section
variable (xs : List Need)
/-- What is left, where the needs up to i are looked at. -/
def lfA (t i j : Nat) : Nat := if j < i then lf (Pf xs) (Bf xs) xs.length t j else pre (Pf xs) (Bf xs) xs.length t j
def dpre (P : Nat → Nat) : Nat → Nat → Nat
  | 0, _ => 0
  | t + 1, j => LT.due P j t
def dueA (t i j : Nat) : Nat := if j < i then LT.due (Pf xs) j t else dpre (Pf xs) t j
def bestA (t i : Nat) : Option Nat := best (lf (Pf xs) (Bf xs) xs.length t) (fun j => LT.due (Pf xs) j t) i
def optI : Option Nat → Int
  | none => -1
  | some b => b
theorem lfA_keep {t i : Nat} (h : t % Pf xs i ≠ 0) (j : Nat) : lfA xs t (i + 1) j = lfA xs t i j := by
  unfold lfA
  by_cases e : j = i
  · subst e; rw [if_pos (by omega), if_neg (by omega), lf_eq, if_neg h]
  · by_cases e2 : j < i
    · rw [if_pos (by omega), if_pos e2]
    · rw [if_neg (by omega), if_neg e2]
theorem dueA_keep {t i : Nat} (h0 : 0 < Pf xs i) (h : t % Pf xs i ≠ 0) (j : Nat) : dueA xs t (i + 1) j = dueA xs t i j := by
  unfold dueA
  by_cases e : j = i
  · subst e; rw [if_pos (by omega), if_neg (by omega)]
    cases t with
    | zero => simp at h
    | succ t => exact due_same h0 h
  · by_cases e2 : j < i
    · rw [if_pos (by omega), if_pos e2]
    · rw [if_neg (by omega), if_neg e2]
theorem lfA_other {t i j : Nat} (e : j ≠ i) : lfA xs t (i + 1) j = lfA xs t i j := by
  unfold lfA
  by_cases e2 : j < i
  · rw [if_pos (by omega), if_pos e2]
  · rw [if_neg (by omega), if_neg e2]
theorem dueA_other {t i j : Nat} (e : j ≠ i) : dueA xs t (i + 1) j = dueA xs t i j := by
  unfold dueA
  by_cases e2 : j < i
  · rw [if_pos (by omega), if_pos e2]
  · rw [if_neg (by omega), if_neg e2]
theorem lfA_set {t i : Nat} (h : t % Pf xs i = 0) : lfA xs t (i + 1) i = Bf xs i := by
  unfold lfA; rw [if_pos (by omega), lf_eq, if_pos h]
theorem dueA_set {t i : Nat} (h : t % Pf xs i = 0) : dueA xs t (i + 1) i = t + Pf xs i := by
  unfold dueA; rw [if_pos (by omega), due_of_mul h]
theorem bestA_succ_none {t i : Nat} (h : bestA xs t i = none) : bestA xs t (i + 1) = if 0 < lfA xs t (i + 1) i then some i else none := by
  have h' : best (lf (Pf xs) (Bf xs) xs.length t) (fun j => LT.due (Pf xs) j t) i = none := h
  show best _ _ (i + 1) = _
  simp only [best, h', lfA, if_pos (Nat.lt_succ_self i)]
theorem bestA_succ_some {t i b : Nat} (h : bestA xs t i = some b) : bestA xs t (i + 1) = if 0 < lfA xs t (i + 1) i ∧ dueA xs t (i + 1) i < dueA xs t (i + 1) b then some i else some b := by
  have hb := (best_some (show best _ _ i = some b from h)).1
  have h' : best (lf (Pf xs) (Bf xs) xs.length t) (fun j => LT.due (Pf xs) j t) i = some b := h
  show best _ _ (i + 1) = _
  simp only [best, h', lfA, dueA, if_pos (Nat.lt_succ_self i), if_pos (Nat.lt_succ_of_lt hb)]
theorem bestA_lt {t i b : Nat} (h : bestA xs t i = some b) : b < i := (best_some (show best _ _ i = some b from h)).1
theorem bestA_pos {t b : Nat} (h : bestA xs t xs.length = some b) : 0 < lfA xs t xs.length b := by
  have := best_some (show best _ _ xs.length = some b from h)
  unfold lfA; rw [if_pos this.1]; exact this.2.1
theorem bestA_who (t : Nat) : optI (bestA xs t xs.length) = whoI xs t := by
  show _ = (match LT.who (Pf xs) (Bf xs) xs.length t with | none => -1 | some i => (i : Int))
  show optI (who (Pf xs) (Bf xs) xs.length t) = _
  cases who (Pf xs) (Bf xs) xs.length t <;> rfl
theorem lfA_next_some {t b : Nat} (h : bestA xs t xs.length = some b) (j : Nat) (hj : j < xs.length) : lfA xs (t + 1) 0 j = if j = b then lfA xs t xs.length b - 1 else lfA xs t xs.length j := by
  have hb := bestA_lt xs h
  have hw : who (Pf xs) (Bf xs) xs.length t = some b := h
  unfold lfA
  rw [if_neg (by omega), if_pos hb, if_pos hj, pre, hw]
  by_cases e : j = b
  · subst e; simp
  · rw [if_neg e, if_neg (fun h => e (by cases h; rfl))]; rfl
theorem lfA_next_none {t : Nat} (h : bestA xs t xs.length = none) (j : Nat) (hj : j < xs.length) : lfA xs (t + 1) 0 j = lfA xs t xs.length j := by
  have hw : who (Pf xs) (Bf xs) xs.length t = none := h
  unfold lfA
  rw [if_neg (by omega), if_pos (by omega), pre, hw]; rfl
theorem dueA_next {t : Nat} (j : Nat) (hj : j < xs.length) : dueA xs (t + 1) 0 j = dueA xs t xs.length j := by
  unfold dueA; rw [if_neg (by omega), if_pos (by omega)]; rfl
theorem lf_le (P B : Nat → Nat) (n i : Nat) : ∀ t, lf P B n t i ≤ B i
  | 0 => Nat.le_refl _
  | t + 1 => by
    have := lf_le P B n i t
    rw [lf_succ]; split
    · exact Nat.le_refl _
    · rw [pre]; omega
theorem lfA_le {t b : Nat} (h : bestA xs t xs.length = some b) : lfA xs t xs.length b ≤ Bf xs b := by
  unfold lfA; rw [if_pos (bestA_lt xs h)]; exact lf_le _ _ _ _ _
theorem lfA_zero (j : Nat) : lfA xs 0 0 j = 0 := rfl
theorem dueA_zero (j : Nat) : dueA xs 0 0 j = 0 := rfl
end
end Go.Proofs.Ytenfikfgliljmaa.LA
