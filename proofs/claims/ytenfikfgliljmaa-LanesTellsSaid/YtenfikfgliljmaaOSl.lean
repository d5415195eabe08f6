/- An argument that is a slice of Slots, opened. -/
import Derived.Test.YtenfikfgliljmaaZ0
import Derived.Test.YtenfikfgliljmaaGSl
import Derived.Deep.Slices
import Derived.Deep.Fields
import Derived.Test.YtenfikfgliljmaaOSt
namespace Go.Proofs.Ytenfikfgliljmaa.LA
open Go.ChangeShapes Go.WideShapes Go.ChangeAt Go.RowKit Go.Deep
theorem Slcells : Try.prog.cellsOf 33 = 3 := by kernel_rfl
theorem Slc3 : Try.prog.cellsOf 3 = 1 := by kernel_rfl
theorem Slc9 : Try.prog.cellsOf 9 = 1 := by kernel_rfl

/-- The numbers of a Slot are of their kinds. -/
def SlOk (x : Slot) : Prop := (-9223372036854775808 ≤ x.lo ∧ x.lo ≤ 9223372036854775807) ∧ (-9223372036854775808 ≤ x.hi ∧ x.hi ≤ 9223372036854775807)
set_option maxRecDepth 100000 in
theorem Slelem {H : Type} {enc : TypeId × Value → H} {W : World} {n : Nat} {a : Addr} {i : Nat} {cs : List Value} {y : DataW H × List MemPlace} (hs : a.spot = none) (hc : W.cells? 0 (a.add (i * 3)) 3 = some cs)
    (ht : DataW.trod enc Try.prog W 0 (fun _ => true) true n 33 cs = some y) : ∃ x : Slot, SlOk x ∧ W.cell? ⟨a.block, a.off + i * 3, none⟩ = some (.string x.subj) ∧ W.cell? ⟨a.block, a.off + i * 3 + 1, none⟩ = some (.int .i64 x.lo) ∧ W.cell? ⟨a.block, a.off + i * 3 + 2, none⟩ = some (.int .i64 x.hi) := by
  obtain ⟨_, hl, hat⟩ := World.cells?_some hc
  obtain ⟨ys, m, _, _, _, hyl, hf⟩ := DataW.trod_struct Try.underlying33 ht
  obtain ⟨c0, c1, c2, rfl⟩ : ∃ c0 c1 c2, cs = [c0, c1, c2] := by
    match cs, hl with
    | [c0, c1, c2], _ => exact ⟨c0, c1, c2, rfl⟩
  have g0 := hf 0 _ rfl
  have w0 := hat 0 (by omega)
  simp only [Slc9, List.drop_zero, List.drop_succ_cons, List.take_succ_cons, List.take_zero, List.getElem?_cons_zero, List.getElem?_cons_succ] at g0 w0
  have e0 : ys[0]? = some (ys[0]'(by rw [hyl]; decide)) := List.getElem?_eq_getElem _
  rw [e0] at g0
  obtain ⟨s0, q0, _, _⟩ := DataW.trod_string Try.underlying9 g0
  obtain rfl := (List.cons.inj q0).1
  rw [add_at _ (by rw [add_at _ hs]) 0, add_at _ hs] at w0
  have g1 := hf 1 _ rfl
  have w1 := hat 1 (by omega)
  simp only [Slc3, List.drop_zero, List.drop_succ_cons, List.take_succ_cons, List.take_zero, List.getElem?_cons_zero, List.getElem?_cons_succ] at g1 w1
  have e1 : ys[1]? = some (ys[1]'(by rw [hyl]; decide)) := List.getElem?_eq_getElem _
  rw [e1] at g1
  obtain ⟨s1, q1, _, f1⟩ := DataW.trod_int Try.underlying3 g1
  obtain rfl := (List.cons.inj q1).1
  rw [add_at _ (by rw [add_at _ hs]) 1, add_at _ hs] at w1
  have g2 := hf 2 _ rfl
  have w2 := hat 2 (by omega)
  simp only [Slc3, List.drop_zero, List.drop_succ_cons, List.take_succ_cons, List.take_zero, List.getElem?_cons_zero, List.getElem?_cons_succ] at g2 w2
  have e2 : ys[2]? = some (ys[2]'(by rw [hyl]; decide)) := List.getElem?_eq_getElem _
  rw [e2] at g2
  obtain ⟨s2, q2, _, f2⟩ := DataW.trod_int Try.underlying3 g2
  obtain rfl := (List.cons.inj q2).1
  rw [add_at _ (by rw [add_at _ hs]) 2, add_at _ hs] at w2
  refine ⟨⟨s0, s1, s2⟩, ?_, ?_, ?_, ?_⟩
  · exact ⟨wf_i64 f1, wf_i64 f2⟩
  · simpa [Nat.add_assoc] using w0
  · simpa [Nat.add_assoc] using w1
  · simpa [Nat.add_assoc] using w2

set_option maxRecDepth 100000 in
theorem Slopen {H : Type} {enc : TypeId × Value → H} {W : World} {base : Nat} {v : Value} {d : DataW H} {p : List MemPlace} (hval : Value.okWide Try.prog W .any base 22 v) (hd : DataW.Trod enc Try.prog W 0 (fun _ => true) true 22 v d p) :
    ∃ (A : Option Addr) (xs : List Slot) (cap : Nat), v = .slice A xs.length cap ∧ SlotsAt W A xs ∧ (∀ x, x ∈ xs → SlOk x) ∧ (xs = [] ∨ ∃ el sp, d = .slice el sp ∧ el.length = xs.length) := by
  obtain ⟨fuel, hf⟩ := hd
  rcases open_slice Try.underlying22 hf with ⟨hc, _⟩ | ⟨a, len, cap, m, n, D, Pl, hc, _, hl, _, hmm, hx, hi⟩
  · refine ⟨none, [], 0, ?_, (fun i h => absurd h (Nat.not_lt_zero i)), (fun x hx => by cases hx), .inl rfl⟩
    simp only [Value.okWide, Try.underlying22, Cell.okWide, Cell.ok] at hval
    cases v <;> simp_all [Value.cells]
  · have hv : v = .slice (some a) len cap := by
      simp only [Value.okWide, Try.underlying22, Cell.okWide, Cell.ok] at hval
      cases v <;> simp_all [Value.cells]
    subst hv
    simp only [Value.okWide, Try.underlying22, Cell.okWide, Cell.ok] at hval
    have hs : a.spot = none := hval.2.2.2.1
    have key : ∀ i, ∃ x : Slot, i < len → SlOk x ∧ W.cell? ⟨a.block, a.off + i * 3, none⟩ = some (.string x.subj) ∧ W.cell? ⟨a.block, a.off + i * 3 + 1, none⟩ = some (.int .i64 x.lo) ∧ W.cell? ⟨a.block, a.off + i * 3 + 2, none⟩ = some (.int .i64 x.hi) := fun i => by
      by_cases h : i < len
      · obtain ⟨cs', h1, h2⟩ := hi i (by rw [hmm]; simp; omega)
        rw [Slcells] at h1
        obtain ⟨x, hx⟩ := Slelem hs h1 h2
        exact ⟨x, fun _ => hx⟩
      · exact ⟨SlZ, fun h' => absurd h' h⟩
    obtain ⟨f, hf2⟩ := Classical.axiomOfChoice key
    have hlen : ((List.range len).map f).length = len := by simp
    refine ⟨some a, (List.range len).map f, cap, by rw [hlen], ?_, ?_, .inr ⟨_, _, congrArg Prod.fst hx, by simp⟩⟩
    · intro i h
      have h' : i < len := by simpa using h
      refine ⟨a.block, a.off, by rw [← hs], ?_⟩
      simpa using (hf2 i h').2
    · intro x hx
      simp only [List.mem_map, List.mem_range] at hx
      obtain ⟨i, h, rfl⟩ := hx
      exact (hf2 i h).1
end Go.Proofs.Ytenfikfgliljmaa.LA
