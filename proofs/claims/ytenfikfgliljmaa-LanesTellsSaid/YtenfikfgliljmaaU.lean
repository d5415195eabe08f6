/- lanes.earliest keeps to the earliest deadline first: its states, told tick by tick. -/
import Derived.Test.YtenfikfgliljmaaH
import Derived.Test.YtenfikfgliljmaaT
import Derived.Test.YtenfikfgliljmaaP0
namespace Go.Proofs.Ytenfikfgliljmaa.LA
open Go.Proofs.Ytenfikfgliljmaa.LT

/-! ### rows, tick by tick -/
/-- The row of n ticks, of who runs at each. -/
def rowOf (f : Nat → ByteArray) : Nat → List Slot
  | 0 => []
  | t + 1 => runL (rowOf f t) (f t) 1

theorem runL_nil (s : ByteArray) (t : Int) : runL [] s t = [⟨s, 0, t⟩] := rfl
theorem runL_concat (zs : List Slot) (y : Slot) (s : ByteArray) (t : Int) :
    runL (zs ++ [y]) s t = if y.subj.toList == s.toList then zs ++ [⟨y.subj, y.lo, y.hi + t⟩] else (zs ++ [y]) ++ [⟨s, y.hi, y.hi + t⟩] := by
  simp [runL]

theorem list_cases (ys : List Slot) : ys = [] ∨ ∃ zs y, ys = zs ++ [y] := by
  by_cases h : ys = []
  · exact .inl h
  · exact .inr ⟨ys.dropLast, ys.getLast h, (List.dropLast_concat_getLast h).symm⟩

theorem runL_runL (ys : List Slot) (s : ByteArray) (a b : Int) : runL (runL ys s a) s b = runL ys s (a + b) := by
  rcases list_cases ys with rfl | ⟨zs, y, rfl⟩
  · rw [runL_nil, runL_nil, show [(⟨s, 0, a⟩ : Slot)] = [] ++ [⟨s, 0, a⟩] from rfl, runL_concat]
    simp
  · rw [runL_concat, runL_concat]
    cases h : y.subj.toList == s.toList with
    | true => simp only [if_true]; rw [runL_concat]; simp only [h, if_true]; rw [Int.add_assoc]
    | false => simp only [Bool.false_eq_true, if_false]; rw [runL_concat]; simp [Int.add_assoc]

theorem endL_runL (ys : List Slot) (s : ByteArray) (a : Int) : endL (runL ys s a) = endL ys + a := by
  rcases list_cases ys with rfl | ⟨zs, y, rfl⟩
  · simp [runL_nil, endL, Slot.zero]
  · rw [runL_concat]
    split <;> simp [endL]

theorem length_runL (ys : List Slot) (s : ByteArray) (a : Int) : (runL ys s a).length ≤ ys.length + 1 := by
  rcases list_cases ys with rfl | ⟨zs, y, rfl⟩
  · simp [runL_nil]
  · rw [runL_concat]
    split <;> simp

theorem endL_rowOf (f : Nat → ByteArray) : ∀ t, endL (rowOf f t) = (t : Int)
  | 0 => rfl
  | t + 1 => by rw [rowOf, endL_runL, endL_rowOf f t]; simp

theorem length_rowOf (f : Nat → ByteArray) : ∀ t, (rowOf f t).length ≤ t
  | 0 => Nat.le_refl _
  | t + 1 => by rw [rowOf]; have := length_runL (rowOf f t) (f t) 1; have := length_rowOf f t; omega

theorem rowOf_run (f : Nat → ByteArray) (s : ByteArray) (t : Nat) : ∀ k, 0 < k → (∀ u, t ≤ u → u < t + k → f u = s) → runL (rowOf f t) s (k : Int) = rowOf f (t + k)
  | 0, h, _ => absurd h (Nat.lt_irrefl 0)
  | k + 1, _, h => by
    have hl : rowOf f (t + (k + 1)) = runL (rowOf f (t + k)) s 1 := by
      rw [show t + (k + 1) = (t + k) + 1 by omega, rowOf, h (t + k) (by omega) (by omega)]
    rw [hl]
    by_cases h0 : k = 0
    · subst h0; rfl
    · rw [← rowOf_run f s t k (by omega) (fun u h1 h2 => h u h1 (by omega)), runL_runL]
      congr 1

/-! ### small facts on lists -/
theorem nodup_len : ∀ (n : Nat) (l : List Int), l.Nodup → (∀ x, x ∈ l → 0 ≤ x ∧ x < n) → l.length ≤ n
  | 0, l, _, h => by
    cases l with
    | nil => simp
    | cons a l => have := h a List.mem_cons_self; omega
  | n + 1, l, hn, h => by
    by_cases hm : (n : Int) ∈ l
    · have := nodup_len n (l.erase (n : Int)) (hn.erase _) (fun x hx => by
        have h1 := (hn.mem_erase_iff).1 hx
        have h2 := h x h1.2
        have h3 := h1.1
        omega)
      rw [List.length_erase_of_mem hm] at this
      omega
    · have := nodup_len n l hn (fun x hx => by
        have h2 := h x hx
        have h3 : x ≠ (n : Int) := fun e => hm (e ▸ hx)
        omega)
      omega

theorem nodup_inj {l : List Job} (h : (l.map (·.need)).Nodup) : ∀ x, x ∈ l → ∀ y, y ∈ l → x.need = y.need → x = y := by
  induction l with
  | nil => intro x hx; cases hx
  | cons a l ih =>
    simp only [List.map_cons, List.nodup_cons] at h
    intro x hx y hy e
    rcases List.mem_cons.1 hx with e1 | hx'
    · rcases List.mem_cons.1 hy with e2 | hy'
      · rw [e1, e2]
      · exact absurd (List.mem_map.2 ⟨y, hy', by rw [← e, e1]⟩) h.1
    · rcases List.mem_cons.1 hy with e2 | hy'
      · exact absurd (List.mem_map.2 ⟨x, hx', by rw [e, e2]⟩) h.1
      · exact ih h.2 x hx' y hy' e

section
variable (xs : List Need) (M : Nat)
def Pf (i : Nat) : Nat := (xs.getD i .zero).period.toNat
def Bf (i : Nat) : Nat := (xs.getD i .zero).budget.toNat
/-- Who runs, by name. -/
def whoF (t : Nat) : ByteArray := match LT.who (Pf xs) (Bf xs) xs.length t with
  | none => ⟨#[]⟩
  | some i => (xs.getD i .zero).subj

/-- The needs are right, and want no more than the frame. -/
structure Fit : Prop where
  m0 : 0 < M
  m1 : M ≤ 65536
  len : xs.length ≤ 65536
  ok : ∀ i, i < xs.length → 0 < Bf xs i ∧ Bf xs i ≤ Pf xs i ∧ Pf xs i ≤ M ∧ M % Pf xs i = 0
  nat : ∀ i, i < xs.length → (xs.getD i .zero).period = (Pf xs i : Int) ∧ (xs.getD i .zero).budget = (Bf xs i : Int)
  sum : sumN (fun i => Bf xs i * (M / Pf xs i)) xs.length ≤ M

theorem Fit.fair {xs : List Need} {M : Nat} (h : Fit xs M) : LT.Fair (Pf xs) (Bf xs) xs.length M :=
  ⟨h.m0, fun i hi => by have := h.ok i hi; omega, fun i hi => (h.ok i hi).2.2.2, h.sum⟩

/-- What is left of a need at the tick t, and when it is due. -/
abbrev lfx (t i : Nat) : Nat := LT.lf (Pf xs) (Bf xs) xs.length t i
abbrev duex (i t : Nat) : Nat := LT.due (Pf xs) i t

/-- A state at the tick t: some of what is released at t is not yet released. -/
structure Core (t : Nat) (st : St) : Prop where
  now : st.now = (t : Int)
  row : st.row = rowOf (whoF xs) t
  hw : Heap st.wait st.wait.length
  hn : Heap st.next st.next.length
  wn : (st.wait.map (·.need)).Nodup
  nn : (st.next.map (·.need)).Nodup
  nx : ∀ x, x ∈ st.next → ∃ i, i < xs.length ∧ x.need = (i : Int) ∧ x.left = 0 ∧ ((x.due = (t : Int) ∧ t % Pf xs i = 0) ∨ x.due = (duex xs i t : Int))
  nall : ∀ i, i < xs.length → ∃ x, x ∈ st.next ∧ x.need = (i : Int)
  wx : ∀ x, x ∈ st.wait → ∃ i, i < xs.length ∧ x.need = (i : Int) ∧ x.due = (duex xs i t : Int) ∧ x.left = (lfx xs t i : Int) ∧ 0 < lfx xs t i ∧ ∀ y, y ∈ st.next → y.need = (i : Int) → y.due = (duex xs i t : Int)
  wall : ∀ i, i < xs.length → 0 < lfx xs t i → (∀ y, y ∈ st.next → y.need = (i : Int) → y.due = (duex xs i t : Int)) → ∃ x, x ∈ st.wait ∧ x.need = (i : Int)
end
end Go.Proofs.Ytenfikfgliljmaa.LA
