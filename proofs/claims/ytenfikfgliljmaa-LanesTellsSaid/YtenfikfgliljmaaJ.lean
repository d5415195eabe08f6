/- Jobs in memory: a pointer to a slice header, and the row behind it; plain, no program in sight. -/
import Derived.Test.YtenfikfgliljmaaM
import Derived.Deep.AppendLies
namespace Go.Proofs.Ytenfikfgliljmaa.LA
open Go.RowKit

structure Job where
  need : Int
  due : Int
  left : Int
deriving DecidableEq

def Job.zero : Job := ⟨0, 0, 0⟩
def Job.cells (x : Job) : List Value := [.int .i64 x.need, .int .i64 x.due, .int .i64 x.left]
def Job.agg (x : Job) : Value := .agg #[.int .i64 x.need, .int .i64 x.due, .int .i64 x.left]
def flat (l : List Job) : List Value := l.flatMap Job.cells

/-- The cells of a row hold the jobs, from the first on. -/
def JC (cur : Array Value) (js : List Job) : Prop :=
  js.length * 3 ≤ cur.size ∧ ∀ i (h : i < js.length), cur[i * 3]? = some (.int .i64 js[i].need) ∧ cur[i * 3 + 1]? = some (.int .i64 js[i].due) ∧ cur[i * 3 + 2]? = some (.int .i64 js[i].left)

theorem flat_length (l : List Job) : (flat l).length = l.length * 3 := by
  induction l with
  | nil => rfl
  | cons x l ih => simp only [flat, List.flatMap_cons, List.length_append, List.length_cons] at ih ⊢; rw [ih]; simp [Job.cells]; omega

theorem flat_get : ∀ (l : List Job) (i : Nat) (h : i < l.length), (flat l)[i * 3]? = some (.int .i64 l[i].need) ∧ (flat l)[i * 3 + 1]? = some (.int .i64 l[i].due) ∧ (flat l)[i * 3 + 2]? = some (.int .i64 l[i].left)
  | x :: l, 0, _ => by simp [flat, Job.cells]
  | x :: l, i + 1, h => by
    have ih := flat_get l i (by simpa using h)
    have e : flat (x :: l) = Job.cells x ++ flat l := rfl
    have hl : (Job.cells x).length = 3 := rfl
    rw [e]
    refine ⟨?_, ?_, ?_⟩
    · rw [List.getElem?_append_right (by rw [hl]; omega), hl, show (i + 1) * 3 - 3 = i * 3 by omega]; exact ih.1
    · rw [List.getElem?_append_right (by rw [hl]; omega), hl, show (i + 1) * 3 + 1 - 3 = i * 3 + 1 by omega]; exact ih.2.1
    · rw [List.getElem?_append_right (by rw [hl]; omega), hl, show (i + 1) * 3 + 2 - 3 = i * 3 + 2 by omega]; exact ih.2.2

theorem flat_append (l m : List Job) : flat (l ++ m) = flat l ++ flat m := by simp [flat]

theorem JC_of_take {cur : Array Value} {js : List Job} (h : cur.toList.take (js.length * 3) = flat js) : JC cur js := by
  have hl : js.length * 3 ≤ cur.size := by
    have := congrArg List.length h
    rw [flat_length, List.length_take] at this
    have h2 : cur.toList.length = cur.size := Array.length_toList
    omega
  have key : ∀ o, o < js.length * 3 → cur[o]? = (flat js)[o]? := fun o ho => by
    rw [← h, List.getElem?_take, if_pos ho]; simp
  refine ⟨hl, fun i hi => ?_⟩
  have := flat_get js i hi
  rw [key _ (by omega), key _ (by omega), key _ (by omega)]
  exact this

theorem take_of_JC {cur : Array Value} {js : List Job} (h : JC cur js) : cur.toList.take (js.length * 3) = flat js := by
  apply List.ext_getElem?
  intro o
  by_cases ho : o < js.length * 3
  · rw [List.getElem?_take, if_pos ho]
    have hi : o / 3 < js.length := by omega
    have h1 := h.2 (o / 3) hi
    have h2 := flat_get js (o / 3) hi
    have h3 : o % 3 = 0 ∨ o % 3 = 1 ∨ o % 3 = 2 := by omega
    rcases h3 with h3 | h3 | h3
    · rw [show o = o / 3 * 3 by omega, h2.1, ← h1.1]; simp
    · rw [show o = o / 3 * 3 + 1 by omega, h2.2.1, ← h1.2.1]; simp
    · rw [show o = o / 3 * 3 + 2 by omega, h2.2.2, ← h1.2.2]; simp
  · rw [List.getElem?_take, if_neg ho, List.getElem?_eq_none (by rw [flat_length]; omega)]

/-- The slice of jobs behind the pointer p lies in the row g. -/
def JAt (w : World) (p g : Nat) (js : List Job) (cap : Nat) (cur : Array Value) : Prop :=
  Row w p 93 #[.slice (some ⟨g, 0, none⟩) js.length cap] ∧ Row w g 96 cur ∧ g ≠ p ∧ js.length ≤ cap ∧ cap ≤ maxLen ∧ cur.size = cap * 3 ∧ JC cur js

theorem JAt.owns {w : World} {p g : Nat} {js : List Job} {cap : Nat} {cur : Array Value} (h : JAt w p g js cap cur) (base : Nat) (hb : base ≤ g) :
    w.ownsRow base 96 3 (.slice (some ⟨g, 0, none⟩) js.length cap) js.length (flat js) :=
  ⟨flat_length js, .inr ⟨g, cap, cur, rfl, hb, h.2.1, h.2.2.2.1, h.2.2.2.2.1, h.2.2.2.2.2.1, take_of_JC h.2.2.2.2.2.2⟩⟩

/-- An exchange. -/
def swapL (l : List Job) (i j : Nat) : List Job := (l.set i (l.getD j .zero)).set j (l.getD i .zero)
theorem swapL_length (l : List Job) (i j : Nat) : (swapL l i j).length = l.length := by simp [swapL]

/-- The cells behind an exchange of the jobs i and j. -/
def swapC (cur : Array Value) (x y : Job) (i j : Nat) : Array Value :=
  (((((cur.setIfInBounds (i * 3) (.int .i64 y.need)).setIfInBounds (i * 3 + 1) (.int .i64 y.due)).setIfInBounds (i * 3 + 2) (.int .i64 y.left)).setIfInBounds
    (j * 3) (.int .i64 x.need)).setIfInBounds (j * 3 + 1) (.int .i64 x.due)).setIfInBounds (j * 3 + 2) (.int .i64 x.left)

/-- The cells of job k are set. -/
def setC (cur : Array Value) (k : Nat) (x : Job) : Array Value :=
  ((cur.setIfInBounds (k * 3) (.int .i64 x.need)).setIfInBounds (k * 3 + 1) (.int .i64 x.due)).setIfInBounds (k * 3 + 2) (.int .i64 x.left)

theorem swapC_eq (cur : Array Value) (x y : Job) (i j : Nat) : swapC cur x y i j = setC (setC cur i y) j x := rfl

theorem setC_size (cur : Array Value) (k : Nat) (x : Job) : (setC cur k x).size = cur.size := by simp [setC]

theorem JC_set {cur : Array Value} {js : List Job} (h : JC cur js) (k : Nat) (hk : k < js.length) (x : Job) : JC (setC cur k x) (js.set k x) := by
  have h0 := h.1
  refine ⟨by rw [setC_size]; simpa using h.1, fun i hi => ?_⟩
  have hi' : i < js.length := by simpa using hi
  have hc := h.2 i hi'
  simp only [setC, Array.getElem?_setIfInBounds]
  by_cases e : i = k
  · subst e
    simp only [List.getElem_set_self]
    refine ⟨?_, ?_, ?_⟩
    · rw [if_neg (by omega), if_neg (by omega), if_pos trivial, if_pos (by omega)]
    · rw [if_neg (by omega), if_pos trivial, if_pos (by simp; omega)]
    · rw [if_pos trivial, if_pos (by simp; omega)]
  · rw [List.getElem_set_ne (Ne.symm e)]
    refine ⟨?_, ?_, ?_⟩
    · rw [if_neg (by omega), if_neg (by omega), if_neg (by omega)]; exact hc.1
    · rw [if_neg (by omega), if_neg (by omega), if_neg (by omega)]; exact hc.2.1
    · rw [if_neg (by omega), if_neg (by omega), if_neg (by omega)]; exact hc.2.2

theorem JC_swap {cur : Array Value} {js : List Job} (h : JC cur js) (i j : Nat) (hi : i < js.length) (hj : j < js.length) : JC (swapC cur js[i] js[j] i j) (swapL js i j) := by
  rw [swapC_eq]
  have h1 := JC_set h i hi js[j]
  have h2 := JC_set h1 j (by simpa using hj) js[i]
  have e : swapL js i j = (js.set i js[j]).set j js[i] := by simp [swapL, List.getD, hi, hj]
  rw [e]; exact h2
end Go.Proofs.Ytenfikfgliljmaa.LA
