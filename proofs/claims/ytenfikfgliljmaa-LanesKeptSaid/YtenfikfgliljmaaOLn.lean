/- An argument that is a lane, opened. -/
import Derived.Test.YtenfikfgliljmaaND
import Derived.Test.YtenfikfgliljmaaB6
import Derived.Lib.SmallJoins
import Derived.ChangeArms
import Derived.SizedLaws
namespace Go.Proofs.Ytenfikfgliljmaa.LA
open Go.ChangeShapes Go.WideShapes Go.ChangeAt Go.RowKit Go.Deep
theorem Lncells : Try.prog.cellsOf 31 = 4 := by kernel_rfl
theorem LnTypes : Try.prog.cellTypes Try.prog.depth 31 = some [3, 26, 4, 29] := by kernel_rfl
set_option maxRecDepth 100000 in
theorem Lnopen2 {H : Type} {enc : TypeId × Value → H} {W : World} {base : Nat} {v : Value} {d : DataW H} {p : List MemPlace} (hval : Value.okWide Try.prog W .any base 31 v) (hd : DataW.Trod enc Try.prog W 0 (fun _ => true) true 31 v d p) :
    ∃ (lp lc : Int) (nd : Bool) (A : Option Addr) (xs : List Need) (cap : Nat), v = laneV lp lc nd A xs.length cap ∧ RunsAt W A xs ∧ (∀ x, x ∈ xs → NdOk x) ∧ xs.length ≤ 9223372036854775807 ∧ (xs = [] ∨ ∃ a b c el sp, d = .agg [a, b, c, .slice el sp] ∧ el.length = xs.length) := by
  have hval' := hval
  obtain ⟨v0, v1, v2, v3, y0, y1, y2, y3, n, rfl, hdd, _, t0, t1, t2, t3⟩ := Go.Joins.open_agg4 Try.underlying31 (by kernel_rfl) Lncells hval hd
  obtain ⟨lp, q0, _, _⟩ := DataW.trod_int Try.underlying3 t0
  obtain ⟨lc, q1, _, _⟩ := DataW.trod_int Try.underlying26 t1
  obtain ⟨nd, q2, _⟩ := DataW.trod_bool Try.underlying4 t2
  obtain rfl := (List.cons.inj q0).1
  obtain rfl := (List.cons.inj q1).1
  obtain rfl := (List.cons.inj q2).1
  have hv3 : Value.okWide Try.prog W .any base 29 v3 := by
    simp only [Value.okWide, Try.underlying31] at hval'
    obtain ⟨cs, hcs, _, ts, hts, _, hrow⟩ := hval'
    obtain rfl := (Value.agg.inj hcs)
    rw [LnTypes] at hts
    obtain rfl := Option.some.inj hts
    obtain ⟨u, hu, hc⟩ := hrow 3 v3 rfl
    obtain rfl : (29 : TypeId) = u := by simpa using hu
    simp only [Value.okWide, Try.underlying29]
    exact hc
  have hd3 : DataW.Trod enc Try.prog W 0 (fun _ => true) true 29 v3 y3.1 y3.2 := by
    have hvc : v3.cells = #[v3] := by
      have h := hv3
      simp only [Value.okWide, Try.underlying29, Cell.okWide, Cell.ok] at h
      cases v3 <;> simp_all [Value.cells]
    refine ⟨n, ?_⟩
    rw [hvc]
    exact t3
  obtain ⟨A, xs, cap, rfl, hat, hok, hlen⟩ := Ndopen hv3 hd3
  refine ⟨lp, lc, nd, A, xs, cap, rfl, hat, hok, ?_, ?_⟩
  rotate_left
  · rcases hlen with h0 | ⟨el, sp, he, hl⟩
    · exact .inl h0
    · exact .inr ⟨_, _, _, el, sp, by rw [hdd, he], hl⟩
  cases A with
  | none =>
    by_cases h0 : xs.length = 0
    · omega
    · obtain ⟨b, off, hA, _⟩ := hat 0 (by omega)
      cases hA
  | some a =>
    simp only [Value.okWide, Try.underlying29, Cell.okWide, Cell.ok] at hv3
    have h2 : IntKind.i64.max = 9223372036854775807 := by decide
    omega
set_option maxRecDepth 100000 in
theorem Lnopen {H : Type} {enc : TypeId × Value → H} {W : World} {base : Nat} {v : Value} {d : DataW H} {p : List MemPlace} (hval : Value.okWide Try.prog W .any base 31 v) (hd : DataW.Trod enc Try.prog W 0 (fun _ => true) true 31 v d p) :
    ∃ (lp lc : Int) (nd : Bool) (A : Option Addr) (xs : List Need) (cap : Nat), v = laneV lp lc nd A xs.length cap ∧ RunsAt W A xs ∧ (∀ x, x ∈ xs → NdOk x) ∧ xs.length ≤ 9223372036854775807 := by
  obtain ⟨lp, lc, nd, A, xs, cap, h1, h2, h3, h4, _⟩ := Lnopen2 hval hd
  exact ⟨lp, lc, nd, A, xs, cap, h1, h2, h3, h4⟩
set_option maxRecDepth 100000 in
/-- The runs of a lane that comes with the arguments are no more than fit. -/
theorem lane_sized {H : Type} {ts : List TypeId} {ds : List (DataW H)} (h : (DataW.weightsEach Try.prog ts ds).all (· ≤ reachBytes) = true) {j : Nat} {a b c : DataW H} {el sp : List (DataW H)} (ht : ts[j]? = some 31) (hd : ds[j]? = some (.agg [a, b, c, .slice el sp])) :
    (el.length + sp.length) * Try.prog.bytesOf 28 ≤ reachBytes := by
  have h3 : (el.length + sp.length) * Try.prog.bytesOf 28 ∈ DataW.weightsEach Try.prog [3, 26, 4, 29] [a, b, c, .slice el sp] :=
    DataW.weights_mem_each (j := 3) rfl rfl _ (by simp [DataW.weights, Try.underlying29])
  have := List.all_eq_true.1 h _ (DataW.weights_mem_each ht hd ((el.length + sp.length) * Try.prog.bytesOf 28) (by
    simp only [DataW.weights, Try.underlying31]
    exact h3))
  simpa using this
theorem bytes28 : Try.prog.bytesOf 28 = 40 := by kernel_rfl
set_option maxRecDepth 100000 in
theorem lane_len {H : Type} {ts : List TypeId} {ds : List (DataW H)} (h : (DataW.weightsEach Try.prog ts ds).all (· ≤ reachBytes) = true) {j : Nat} {d : DataW H} {xs : List Need} (ht : ts[j]? = some 31) (hd : ds[j]? = some d) (hl : xs = [] ∨ ∃ a b c el sp, d = .agg [a, b, c, .slice el sp] ∧ el.length = xs.length) : xs.length ≤ 3518437208780 := by
  rcases hl with rfl | ⟨a, b, c, el, sp, rfl, hl⟩
  · simp
  · have := lane_sized h ht hd
    rw [bytes28, hl] at this
    simp only [reachBytes] at this
    omega
theorem NdOk.ok {x : Need} (h : NdOk x) : x.ok := ⟨h.2.1.1, h.2.1.2, h.2.2.1, h.2.2.2⟩
end Go.Proofs.Ytenfikfgliljmaa.LA
