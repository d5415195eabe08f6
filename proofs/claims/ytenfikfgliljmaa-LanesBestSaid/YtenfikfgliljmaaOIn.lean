/- An argument that is a slice of numbers, opened. -/
import Derived.Test.YtenfikfgliljmaaST
import Derived.Test.YtenfikfgliljmaaMC
import Derived.ChangeSlices
namespace Go.Proofs.Ytenfikfgliljmaa.LA
open Go.ChangeShapes Go.WideShapes Go.ChangeAt Go.RowKit Go.Deep
theorem In1 : Try.prog.cellsOf 3 = 1 := by kernel_rfl
set_option maxRecDepth 100000 in
theorem Inopen {H : Type} {enc : TypeId × Value → H} {W : World} {base : Nat} {v : Value} {d : DataW H} {p : List MemPlace} (hval : Value.okWide Try.prog W .any base 54 v) (hd : DataW.Trod enc Try.prog W 0 (fun _ => true) true 54 v d p) :
    ∃ (A : Option Addr) (ws : List Int) (cap : Nat), v = .slice A ws.length cap ∧ IntsAt W A ws ∧ ws.length ≤ 9223372036854775807 := by
  obtain ⟨fuel, hf⟩ := hd
  rcases Go.ChangeShapes.open_ints Try.underlying54 Try.underlying3 In1 hf with ⟨hc, _⟩ | ⟨a, len, cap, zs, hc, _, hl, hcap, hz, _, hat, _⟩
  · refine ⟨none, [], 0, ?_, (fun i h => absurd h (Nat.not_lt_zero i)), by simp⟩
    simp only [Value.okWide, Try.underlying54, Cell.okWide, Cell.ok] at hval
    cases v <;> simp_all [Value.cells]
  · have hv : v = .slice (some a) len cap := by
      simp only [Value.okWide, Try.underlying54, Cell.okWide, Cell.ok] at hval
      cases v <;> simp_all [Value.cells]
    subst hv
    simp only [Value.okWide, Try.underlying54, Cell.okWide, Cell.ok] at hval
    have hs : a.spot = none := hval.2.2.2.1
    simp only [if_true] at hz
    have hlt : (zs.take len).length = len := by rw [List.length_take]; omega
    refine ⟨some a, zs.take len, cap, by rw [hlt], ?_, by rw [hlt]; unfold maxLen at hcap; omega⟩
    intro i h
    rw [hlt] at h
    refine ⟨a.block, a.off, by rw [← hs], ?_⟩
    have := hat i (by omega)
    rw [add_at _ hs] at this
    rw [this, List.getElem_take]
    simp [List.getD, show i < zs.length by omega]
end Go.Proofs.Ytenfikfgliljmaa.LA
