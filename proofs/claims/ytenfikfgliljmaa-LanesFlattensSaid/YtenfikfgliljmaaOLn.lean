/- An argument that is a lane, opened. -/
import Derived.Test.YtenfikfgliljmaaND
import Derived.Test.YtenfikfgliljmaaB6
import Derived.Lib.SmallJoins
import Derived.ChangeArms
namespace Go.Proofs.Ytenfikfgliljmaa.LA
open Go.ChangeShapes Go.WideShapes Go.ChangeAt Go.RowKit Go.Deep
theorem Lncells : Try.prog.cellsOf 31 = 4 := by kernel_rfl
theorem LnTypes : Try.prog.cellTypes Try.prog.depth 31 = some [3, 26, 4, 29] := by kernel_rfl
set_option maxRecDepth 100000 in
theorem Lnopen {H : Type} {enc : TypeId × Value → H} {W : World} {base : Nat} {v : Value} {d : DataW H} {p : List MemPlace} (hval : Value.okWide Try.prog W .any base 31 v) (hd : DataW.Trod enc Try.prog W 0 (fun _ => true) true 31 v d p) :
    ∃ (lp lc : Int) (nd : Bool) (A : Option Addr) (xs : List Need) (cap : Nat), v = laneV lp lc nd A xs.length cap ∧ RunsAt W A xs ∧ (∀ x, x ∈ xs → NdOk x) ∧ xs.length ≤ 9223372036854775807 := by
  have hval' := hval
  obtain ⟨v0, v1, v2, v3, y0, y1, y2, y3, n, rfl, _, _, t0, t1, t2, t3⟩ := Go.Joins.open_agg4 Try.underlying31 (by kernel_rfl) Lncells hval hd
  obtain ⟨lp, q0, _, _⟩ := DataW.trod_int Try.underlying3 t0
  obtain ⟨lc, q1, _, _⟩ := DataW.trod_int Try.underlying26 t1
  obtain ⟨nd, q2, _⟩ := DataW.trod_bool Try.underlying4 t2
  obtain rfl := (List.cons.inj q0).1
  obtain rfl := (List.cons.inj q1).1
  obtain rfl := (List.cons.inj q2).1
  have hv3 : Value.okWide Try.prog W .any base 29 v3 := by
    simp only [Value.okWide, Try.underlying31] at hval'
    obtain ⟨cs, hcs, _, ts, hts, _, hrow⟩ := hval'
    obtain rfl := (Value.agg.inj hcs)
    rw [LnTypes] at hts
    obtain rfl := Option.some.inj hts
    obtain ⟨u, hu, hc⟩ := hrow 3 v3 rfl
    obtain rfl : (29 : TypeId) = u := by simpa using hu
    simp only [Value.okWide, Try.underlying29]
    exact hc
  have hd3 : DataW.Trod enc Try.prog W 0 (fun _ => true) true 29 v3 y3.1 y3.2 := by
    have hvc : v3.cells = #[v3] := by
      have h := hv3
      simp only [Value.okWide, Try.underlying29, Cell.okWide, Cell.ok] at h
      cases v3 <;> simp_all [Value.cells]
    refine ⟨n, ?_⟩
    rw [hvc]
    exact t3
  obtain ⟨A, xs, cap, rfl, hat, hok, _⟩ := Ndopen hv3 hd3
  refine ⟨lp, lc, nd, A, xs, cap, rfl, hat, hok, ?_⟩
  cases A with
  | none =>
    by_cases h0 : xs.length = 0
    · omega
    · obtain ⟨b, off, hA, _⟩ := hat 0 (by omega)
      cases hA
  | some a =>
    simp only [Value.okWide, Try.underlying29, Cell.okWide, Cell.ok] at hv3
    have h2 : IntKind.i64.max = 9223372036854775807 := by decide
    omega
theorem NdOk.ok {x : Need} (h : NdOk x) : x.ok := ⟨h.2.1.1, h.2.1.2, h.2.2.1, h.2.2.2⟩
end Go.Proofs.Ytenfikfgliljmaa.LA
