/- An argument that is a slice of Stints, opened. -/
import Derived.Test.YtenfikfgliljmaaZ0
import Derived.Test.YtenfikfgliljmaaGSt
import Derived.Deep.Slices
import Derived.Deep.Fields
namespace Go.Proofs.Ytenfikfgliljmaa.LA
open Go.ChangeShapes Go.WideShapes Go.ChangeAt Go.RowKit Go.Deep
theorem Stcells : Try.prog.cellsOf 47 = 2 := by kernel_rfl
theorem Stc3 : Try.prog.cellsOf 3 = 1 := by kernel_rfl

/-- The numbers of a Stint are of their kinds. -/
def StOk (x : Stint) : Prop := (-9223372036854775808 ≤ x.subj ∧ x.subj ≤ 9223372036854775807) ∧ (-9223372036854775808 ≤ x.ticks ∧ x.ticks ≤ 9223372036854775807)
theorem wf_i64 {n : Int} (h : (Lit.int .i64 n).wf = true) : -9223372036854775808 ≤ n ∧ n ≤ 9223372036854775807 := by
  have h1 : IntKind.i64.min = -9223372036854775808 := by decide
  have h2 : IntKind.i64.max = 9223372036854775807 := by decide
  simp only [Lit.wf, Bool.and_eq_true, decide_eq_true_eq, h1, h2] at h
  exact h
theorem wf_u64 {n : Int} (h : (Lit.int .u64 n).wf = true) : 0 ≤ n ∧ n ≤ 18446744073709551615 := by
  have h1 : IntKind.u64.min = 0 := by decide
  have h2 : IntKind.u64.max = 18446744073709551615 := by decide
  simp only [Lit.wf, Bool.and_eq_true, decide_eq_true_eq, h1, h2] at h
  exact h
theorem add_at (a : Addr) (hs : a.spot = none) (n : Nat) : a.add n = ⟨a.block, a.off + n, none⟩ := by
  obtain ⟨b, off, spot⟩ := a
  simp only at hs
  subst hs
  unfold Addr.add
  split <;> simp_all

set_option maxRecDepth 100000 in
theorem Stelem {H : Type} {enc : TypeId × Value → H} {W : World} {n : Nat} {a : Addr} {i : Nat} {cs : List Value} {y : DataW H × List MemPlace} (hs : a.spot = none) (hc : W.cells? 0 (a.add (i * 2)) 2 = some cs)
    (ht : DataW.trod enc Try.prog W 0 (fun _ => true) true n 47 cs = some y) : ∃ x : Stint, StOk x ∧ W.cell? ⟨a.block, a.off + i * 2, none⟩ = some (.int .i64 x.subj) ∧ W.cell? ⟨a.block, a.off + i * 2 + 1, none⟩ = some (.int .i64 x.ticks) := by
  obtain ⟨_, hl, hat⟩ := World.cells?_some hc
  obtain ⟨ys, m, _, _, _, hyl, hf⟩ := DataW.trod_struct Try.underlying47 ht
  obtain ⟨c0, c1, rfl⟩ : ∃ c0 c1, cs = [c0, c1] := by
    match cs, hl with
    | [c0, c1], _ => exact ⟨c0, c1, rfl⟩
  have g0 := hf 0 _ rfl
  have w0 := hat 0 (by omega)
  simp only [Stc3, List.drop_zero, List.drop_succ_cons, List.take_succ_cons, List.take_zero, List.getElem?_cons_zero, List.getElem?_cons_succ] at g0 w0
  have e0 : ys[0]? = some (ys[0]'(by rw [hyl]; decide)) := List.getElem?_eq_getElem _
  rw [e0] at g0
  obtain ⟨s0, q0, _, f0⟩ := DataW.trod_int Try.underlying3 g0
  obtain rfl := (List.cons.inj q0).1
  rw [add_at _ (by rw [add_at _ hs]) 0, add_at _ hs] at w0
  have g1 := hf 1 _ rfl
  have w1 := hat 1 (by omega)
  simp only [Stc3, List.drop_zero, List.drop_succ_cons, List.take_succ_cons, List.take_zero, List.getElem?_cons_zero, List.getElem?_cons_succ] at g1 w1
  have e1 : ys[1]? = some (ys[1]'(by rw [hyl]; decide)) := List.getElem?_eq_getElem _
  rw [e1] at g1
  obtain ⟨s1, q1, _, f1⟩ := DataW.trod_int Try.underlying3 g1
  obtain rfl := (List.cons.inj q1).1
  rw [add_at _ (by rw [add_at _ hs]) 1, add_at _ hs] at w1
  refine ⟨⟨s0, s1⟩, ?_, ?_, ?_⟩
  · exact ⟨wf_i64 f0, wf_i64 f1⟩
  · simpa [Nat.add_assoc] using w0
  · simpa [Nat.add_assoc] using w1

set_option maxRecDepth 100000 in
theorem Stopen {H : Type} {enc : TypeId × Value → H} {W : World} {base : Nat} {v : Value} {d : DataW H} {p : List MemPlace} (hval : Value.okWide Try.prog W .any base 44 v) (hd : DataW.Trod enc Try.prog W 0 (fun _ => true) true 44 v d p) :
    ∃ (A : Option Addr) (xs : List Stint) (cap : Nat), v = .slice A xs.length cap ∧ StintsAt W A xs ∧ (∀ x, x ∈ xs → StOk x) ∧ (xs = [] ∨ ∃ el sp, d = .slice el sp ∧ el.length = xs.length) := by
  obtain ⟨fuel, hf⟩ := hd
  rcases open_slice Try.underlying44 hf with ⟨hc, _⟩ | ⟨a, len, cap, m, n, D, Pl, hc, _, hl, _, hmm, hx, hi⟩
  · refine ⟨none, [], 0, ?_, (fun i h => absurd h (Nat.not_lt_zero i)), (fun x hx => by cases hx), .inl rfl⟩
    simp only [Value.okWide, Try.underlying44, Cell.okWide, Cell.ok] at hval
    cases v <;> simp_all [Value.cells]
  · have hv : v = .slice (some a) len cap := by
      simp only [Value.okWide, Try.underlying44, Cell.okWide, Cell.ok] at hval
      cases v <;> simp_all [Value.cells]
    subst hv
    simp only [Value.okWide, Try.underlying44, Cell.okWide, Cell.ok] at hval
    have hs : a.spot = none := hval.2.2.2.1
    have key : ∀ i, ∃ x : Stint, i < len → StOk x ∧ W.cell? ⟨a.block, a.off + i * 2, none⟩ = some (.int .i64 x.subj) ∧ W.cell? ⟨a.block, a.off + i * 2 + 1, none⟩ = some (.int .i64 x.ticks) := fun i => by
      by_cases h : i < len
      · obtain ⟨cs', h1, h2⟩ := hi i (by rw [hmm]; simp; omega)
        rw [Stcells] at h1
        obtain ⟨x, hx⟩ := Stelem hs h1 h2
        exact ⟨x, fun _ => hx⟩
      · exact ⟨StZ, fun h' => absurd h' h⟩
    obtain ⟨f, hf2⟩ := Classical.axiomOfChoice key
    have hlen : ((List.range len).map f).length = len := by simp
    refine ⟨some a, (List.range len).map f, cap, by rw [hlen], ?_, ?_, .inr ⟨_, _, congrArg Prod.fst hx, by simp⟩⟩
    · intro i h
      have h' : i < len := by simpa using h
      refine ⟨a.block, a.off, by rw [← hs], ?_⟩
      simpa using (hf2 i h').2
    · intro x hx
      simp only [List.mem_map, List.mem_range] at hx
      obtain ⟨i, h, rfl⟩ := hx
      exact (hf2 i h).1
end Go.Proofs.Ytenfikfgliljmaa.LA
