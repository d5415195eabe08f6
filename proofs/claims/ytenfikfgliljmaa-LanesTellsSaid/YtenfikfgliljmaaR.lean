/- What is wrong with a run, how much it wants; plain. -/
import Derived.Test.YtenfikfgliljmaaE
namespace Go.Proofs.Ytenfikfgliljmaa.LA
open Go.RowKit

def wrongC (major : Int) (x : Need) (needs : Bool) : Int :=
  if x.budget = 0 ∨ major < x.budget then 90
  else if needs = false then 0
  else if x.subj.toList = [] then 80
  else if x.period = 0 ∨ major < x.period ∨ major % x.period ≠ 0 ∨ x.period < x.budget then 91
  else 0

def wantsC (major : Int) (x : Need) (needs : Bool) : Int := if needs = true then x.budget * (major / x.period) else x.budget

/-- The numbers of a run are of their kinds. -/
structure Need.ok (x : Need) : Prop where
  b0 : 0 ≤ x.budget
  b1 : x.budget ≤ 18446744073709551615
  p0 : 0 ≤ x.period
  p1 : x.period ≤ 18446744073709551615

structure RightIn (major : Int) (x : Need) (needs : Bool) : Prop where
  le : x.budget ≤ major
  pos : 1 ≤ x.budget
  per : needs = true → x.subj.toList ≠ [] ∧ 1 ≤ x.period ∧ x.period ≤ major ∧ major % x.period = 0 ∧ x.budget ≤ x.period

theorem right_in {major : Int} {x : Need} {needs : Bool} (hx : x.ok) (h : wrongC major x needs = 0) : RightIn major x needs := by
  unfold wrongC at h
  have := hx.b0; have := hx.p0
  split at h
  · cases h
  · rename_i h1
    split at h
    · rename_i h2
      exact ⟨by omega, by omega, fun h => by rw [h2] at h; cases h⟩
    · split at h
      · cases h
      · rename_i h3
        split at h
        · cases h
        · rename_i h4
          exact ⟨by omega, by omega, fun _ => ⟨h3, by omega, by omega, by omega, by omega⟩⟩
end Go.Proofs.Ytenfikfgliljmaa.LA
