/- What Flatten answers, plain. -/
import Derived.Test.YtenfikfgliljmaaR
import Derived.Test.YtenfikfgliljmaaX
namespace Go.Proofs.Ytenfikfgliljmaa.LA
open Go.Proofs.Ytenfikfgliljmaa.LT

/-- The runs one behind the other: the first that is refused, or what they want together. -/
def checkL (major : Int) (needs : Bool) : List Need → Int → Int → Except (Int × Int) Int
  | [], _, s => .ok s
  | x :: r, i, s =>
    if wrongC major x needs ≠ 0 then .error (i, wrongC major x needs)
    else if major < s + wantsC major x needs then .error (i, 93)
    else checkL major needs r (i + 1) (s + wantsC major x needs)

def sumW (major : Int) (needs : Bool) : List Need → Int
  | [] => 0
  | x :: r => wantsC major x needs + sumW major needs r

theorem check_ok {major : Int} {needs : Bool} : ∀ {xs : List Need} {i s t : Int}, checkL major needs xs i s = .ok t → t = s + sumW major needs xs ∧ (∀ x, x ∈ xs → wrongC major x needs = 0) ∧ (s ≤ major → t ≤ major)
  | [], i, s, t, h => by
    simp only [checkL, Except.ok.injEq] at h
    subst h
    exact ⟨by simp [sumW], (fun x hx => by cases hx), fun h => h⟩
  | x :: r, i, s, t, h => by
    simp only [checkL] at h
    split at h
    · cases h
    · rename_i h1
      split at h
      · cases h
      · rename_i h2
        obtain ⟨a, b, c⟩ := check_ok h
        refine ⟨by simp only [sumW]; omega, fun y hy => ?_, fun _ => c (by omega)⟩
        rcases List.mem_cons.1 hy with rfl | hy
        · omega
        · exact b y hy

/-- The runs one behind the other, as slots. -/
def runsRow (xs : List Need) : List Slot := xs.foldl (fun ys x => runL ys x.subj x.budget) []
theorem runsRow_snoc (xs : List Need) (x : Need) : runsRow (xs ++ [x]) = runL (runsRow xs) x.subj x.budget := by simp [runsRow]

theorem endL_runsRow (major : Int) (xs : List Need) : endL (runsRow xs) = sumW major false xs := by
  have key : ∀ (xs : List Need) (ys : List Slot), endL (xs.foldl (fun ys x => runL ys x.subj x.budget) ys) = endL ys + sumW major false xs := by
    intro xs
    induction xs with
    | nil => intro ys; simp [sumW]
    | cons x r ih => intro ys; rw [List.foldl_cons, ih, endL_runL]; simp only [sumW, wantsC, Bool.false_eq_true, if_false]; omega
  have := key xs []
  rw [show endL [] = 0 from rfl] at this
  unfold runsRow; omega
theorem length_runsRow (xs : List Need) : (runsRow xs).length ≤ xs.length := by
  have key : ∀ (xs : List Need) (ys : List Slot), (xs.foldl (fun ys x => runL ys x.subj x.budget) ys).length ≤ ys.length + xs.length := by
    intro xs
    induction xs with
    | nil => intro ys; simp
    | cons x r ih => intro ys; rw [List.foldl_cons]; have h1 := ih (runL ys x.subj x.budget); have h2 := length_runL ys x.subj x.budget; rw [List.length_cons]; omega
  have := key xs []
  unfold runsRow; simpa using this

/-- Nobody up to the frame's end. -/
def fillRow (major : Int) (ys : List Slot) : List Slot := if endL ys < major then runL ys ⟨#[]⟩ (major - endL ys) else ys

/-- A lane's row. -/
def flatRow (major : Int) (xs : List Need) (needs : Bool) : List Slot :=
  fillRow major (if needs = true then rowOf (whoF xs) major.toNat else runsRow xs)

/-- What Flatten answers once the runs are looked at. -/
def flatE (major : Int) (xs : List Need) (needs : Bool) : Except (Int × Int) Int → List Slot × Int × Int
  | .error p => ([], p.1, p.2)
  | .ok _ => if 4096 < (flatRow major xs needs).length then ([], -1, 4) else (flatRow major xs needs, 0, 0)

/-- What Flatten answers: the slots (none, if it refuses), the place, the number. -/
def flatL (major : Int) (xs : List Need) (needs : Bool) : List Slot × Int × Int :=
  if major < 1 ∨ 65536 < major then ([], -1, 92) else flatE major xs needs (checkL major needs xs 0 0)

theorem sumW_nonneg {major : Int} {needs : Bool} : ∀ {xs : List Need}, (∀ x, x ∈ xs → 0 ≤ wantsC major x needs) → 0 ≤ sumW major needs xs
  | [], _ => Int.le_refl 0
  | x :: r, h => by
    have := h x List.mem_cons_self
    have := sumW_nonneg (xs := r) (major := major) (needs := needs) fun y hy => h y (List.mem_cons_of_mem _ hy)
    simp only [sumW]; omega

theorem sumW_append {major : Int} {needs : Bool} : ∀ (a b : List Need), sumW major needs (a ++ b) = sumW major needs a + sumW major needs b
  | [], b => by simp [sumW]
  | x :: r, b => by simp only [List.cons_append, sumW, sumW_append r b]; omega

theorem wants_pos {major : Int} {x : Need} {needs : Bool} (h : RightIn major x needs) : 1 ≤ wantsC major x needs := by
  unfold wantsC
  split
  · rename_i hn
    obtain ⟨h1, h2, h3, h4, h5⟩ := h.per hn
    have h6 : 1 ≤ major / x.period := by
      have := Int.mul_ediv_cancel' (Int.dvd_of_emod_eq_zero h4)
      by_cases h : major / x.period < 1
      · exfalso
        have : x.period * (major / x.period) ≤ 0 := Int.mul_nonpos_of_nonneg_of_nonpos (by omega) (by omega)
        omega
      · omega
    have := h.pos
    calc (1 : Int) = 1 * 1 := by omega
      _ ≤ x.budget * (major / x.period) := Int.mul_le_mul this h6 (by omega) (by omega)
  · exact h.pos

/-- What stands at one of so many wants no more than all. -/
theorem sumW_len {major : Int} {needs : Bool} : ∀ {xs : List Need}, (∀ x, x ∈ xs → 1 ≤ wantsC major x needs) → (xs.length : Int) ≤ sumW major needs xs
  | [], _ => Int.le_refl 0
  | x :: r, h => by
    have := h x List.mem_cons_self
    have := sumW_len (xs := r) (major := major) (needs := needs) fun y hy => h y (List.mem_cons_of_mem _ hy)
    simp only [sumW, List.length_cons]; omega

theorem sumN_sumW (M : Nat) (xs : List Need) (h : ∀ i, i < xs.length → (xs.getD i .zero).period = (Pf xs i : Int) ∧ (xs.getD i .zero).budget = (Bf xs i : Int)) :
    ∀ k, k ≤ xs.length → (sumN (fun i => Bf xs i * (M / Pf xs i)) k : Int) = sumW M true (xs.take k) := by
  intro k
  induction k with
  | zero => intro _; simp [sumN, sumW]
  | succ k ih =>
    intro hk
    have e : xs.take (k + 1) = xs.take k ++ [xs.getD k .zero] := by
      rw [List.take_succ_eq_append_getElem (by omega)]; simp [List.getD, show k < xs.length by omega]
    rw [e, sumW_append, sumN, Int.natCast_add, ih (by omega)]
    simp only [sumW, wantsC, if_true, Int.add_zero]
    rw [(h k (by omega)).1, (h k (by omega)).2]
    simp

theorem fit_of_check {major : Int} {xs : List Need} {s : Int} (hm : 1 ≤ major) (hm2 : major ≤ 65536) (hok : ∀ x, x ∈ xs → x.ok) (h : checkL major true xs 0 0 = .ok s) : Fit xs major.toNat := by
  obtain ⟨a, b, c⟩ := check_ok h
  have hs := c (by omega)
  have hr : ∀ x, x ∈ xs → RightIn major x true := fun x hx => right_in (hok x hx) (b x hx)
  have hlen := sumW_len (major := major) (needs := true) (xs := xs) fun x hx => wants_pos (hr x hx)
  have hmem : ∀ i, i < xs.length → xs.getD i .zero ∈ xs := fun i hi => by
    rw [show xs.getD i .zero = xs[i] by simp [List.getD, hi]]; exact List.getElem_mem hi
  have hnat : ∀ i, i < xs.length → (xs.getD i .zero).period = (Pf xs i : Int) ∧ (xs.getD i .zero).budget = (Bf xs i : Int) := fun i hi => by
    have := hok _ (hmem i hi)
    unfold Pf Bf
    have := this.p0; have := (hok _ (hmem i hi)).b0
    omega
  refine ⟨by omega, by omega, by omega, fun i hi => ?_, hnat, ?_⟩
  · obtain ⟨h1, h2, h3⟩ := hr _ (hmem i hi)
    obtain ⟨h4, h5, h6, h7, h8⟩ := h3 rfl
    obtain ⟨n1, n2⟩ := hnat i hi
    refine ⟨by omega, by omega, by omega, ?_⟩
    have h9 : ((major.toNat % Pf xs i : Nat) : Int) = major % (Pf xs i : Int) := by
      rw [Int.natCast_emod, Int.toNat_of_nonneg (by omega)]
    rw [n1] at h7
    omega
  · have := sumN_sumW major.toNat xs hnat xs.length (Nat.le_refl _)
    rw [List.take_length, Int.toNat_of_nonneg (by omega)] at this
    omega
end Go.Proofs.Ytenfikfgliljmaa.LA
