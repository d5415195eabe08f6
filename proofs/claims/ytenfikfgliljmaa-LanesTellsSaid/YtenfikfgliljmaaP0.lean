/- The states that lanes.earliest goes through, as plain data; and what a proof about them must bring for the walk. -/
import Derived.Test.YtenfikfgliljmaaA7
import Derived.Test.YtenfikfgliljmaaE
namespace Go.Proofs.Ytenfikfgliljmaa.LA
open Go.RowKit

structure St where
  now : Int
  row : List Slot
  wait : List Job
  next : List Job

/-- A need is released. -/
def innerSt (xs : List Need) (st : St) (x : Job) : St :=
  let p := (xs.getD x.need.toNat .zero).period
  { st with
    wait := upL (st.wait ++ [⟨x.need, st.now + p, (xs.getD x.need.toNat .zero).budget⟩]) st.wait.length
    next := (downL (st.next.set 0 ⟨x.need, x.due + p, x.left⟩) 0 st.next.length).1 }

/-- Until when nothing is released. -/
def untilOf (major : Int) (st : St) : Int := match st.next[0]? with
  | none => major
  | some x => min major x.due

/-- Time goes on. -/
def outerSt (xs : List Need) (major : Int) (st : St) : St := match st.wait[0]? with
  | none => { st with now := untilOf major st, row := runL st.row ⟨#[]⟩ (untilOf major st - st.now) }
  | some x =>
    let t := min x.left (untilOf major st - st.now)
    let wait1 := st.wait.set 0 ⟨x.need, x.due, x.left - t⟩
    { st with now := st.now + t, row := runL st.row (xs.getD x.need.toNat .zero).subj t, wait := if x.left - t = 0 then (popL wait1).dropLast else wait1 }

def initNext (n : Nat) : List Job := (List.range n).map fun (i : Nat) => (⟨(i : Int), 0, 0⟩ : Job)

structure JobOk (n : Nat) (x : Job) : Prop where
  n0 : 0 ≤ x.need
  n1 : x.need < n
  d0 : 0 ≤ x.due
  d1 : x.due ≤ 1000000
  l0 : 0 ≤ x.left
  l1 : x.left ≤ 1000000

structure Bd (n : Nat) (major : Int) (st : St) : Prop where
  t0 : 0 ≤ st.now
  t1 : st.now < major
  rl : st.row.length ≤ 1000000
  re : endL st.row = st.now
  wl : st.wait.length ≤ 1000000
  nl : st.next.length ≤ 1000000
  wj : ∀ x, x ∈ st.wait → JobOk n x
  nj : ∀ x, x ∈ st.next → JobOk n x
  wpos : ∀ x, st.wait[0]? = some x → 0 < x.left

structure Edf (xs : List Need) (major : Int) where
  G : St → Prop
  GI : St → Prop
  μ : St → Nat
  init : G ⟨0, [], [], initNext xs.length⟩
  enter : ∀ st, G st → st.now < major → GI st
  bd : ∀ st, GI st → Bd xs.length major st
  inner : ∀ st x, GI st → st.next[0]? = some x → x.due = st.now → GI (innerSt xs st x) ∧ μ (innerSt xs st x) < μ st
  outer : ∀ st, GI st → (∀ x, st.next[0]? = some x → x.due ≠ st.now) → G (outerSt xs major st) ∧ st.now < (outerSt xs major st).now

theorem initNext_length (n : Nat) : (initNext n).length = n := by simp [initNext]
theorem initNext_succ (n : Nat) : initNext (n + 1) = initNext n ++ [⟨(n : Int), 0, 0⟩] := by simp [initNext, List.range_succ]
theorem initNext_get (n i : Nat) (h : i < n) : (initNext n).getD i .zero = ⟨(i : Int), 0, 0⟩ := by
  simp [initNext, List.getD, h]
theorem upL_init (n : Nat) : upL (initNext n ++ [⟨(n : Int), 0, 0⟩]) n = initNext (n + 1) := by
  rw [← initNext_succ]
  by_cases h : n = 0
  · subst h; exact upL_zero _
  · refine upL_no _ _ ?_
    rw [initNext_get _ _ (by omega), initNext_get _ _ (by omega)]
    simp [lessJ, lessB]; omega
end Go.Proofs.Ytenfikfgliljmaa.LA
