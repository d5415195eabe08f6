/- An argument that is a slice of asks, opened. -/
import Derived.Test.YtenfikfgliljmaaKL
import Derived.Test.YtenfikfgliljmaaOLn
namespace Go.Proofs.Ytenfikfgliljmaa.LA
open Go.ChangeShapes Go.WideShapes Go.ChangeAt Go.RowKit Go.Deep
set_option maxRecDepth 100000 in
/-- A list in a cell: its address has no spot where it holds a thing. -/
theorem NdopenT {H : Type} {enc : TypeId × Value → H} {W : World} {n : Nat} {v : Value} {y : DataW H × List MemPlace} (ht : DataW.trod enc Try.prog W 0 (fun _ => true) true n 29 [v] = some y) :
    ∃ (A : Option Addr) (xs : List Need) (cap : Nat), v = .slice A xs.length cap ∧ RunsAt W A xs ∧ (∀ x, x ∈ xs → NdOk x) ∧ xs.length ≤ cap ∧ cap ≤ maxLen := by
  rcases open_slice Try.underlying29 ht with ⟨hc, _⟩ | ⟨a, len, cap, m, n, D, Pl, hc, _, hl, hcm, hmm, hx, hi⟩
  · obtain rfl := (List.cons.inj hc).1
    exact ⟨none, [], 0, rfl, (fun i h => absurd h (Nat.not_lt_zero i)), (fun x hx => by cases hx), Nat.le_refl _, Nat.zero_le _⟩
  · obtain rfl := (List.cons.inj hc).1
    have key : ∀ i, ∃ x : Need, i < len → a.spot = none ∧ NdOk x ∧ W.cell? ⟨a.block, a.off + i * 4, none⟩ = some (.int .i64 x.pos) ∧ W.cell? ⟨a.block, a.off + i * 4 + 1, none⟩ = some (.string x.subj) ∧ W.cell? ⟨a.block, a.off + i * 4 + 2, none⟩ = some (.int .u64 x.budget) ∧ W.cell? ⟨a.block, a.off + i * 4 + 3, none⟩ = some (.int .u64 x.period) := fun i => by
      by_cases h : i < len
      · obtain ⟨cs', h1, h2⟩ := hi i (by rw [hmm]; simp; omega)
        rw [Ndcells] at h1
        have hs : a.spot = none := by
          obtain ⟨cs0, g1, _⟩ := hi 0 (by rw [hmm]; simp; omega)
          rw [Ndcells] at g1
          obtain ⟨_, hl', hat⟩ := World.cells?_some g1
          have := World.cell?_spot ((hat 0 (by omega)).trans (List.getElem?_eq_getElem (show 0 < cs0.length by omega)))
          simpa [Addr.add] using this
        obtain ⟨x, hx⟩ := Ndelem hs h1 h2
        exact ⟨x, fun _ => ⟨hs, hx⟩⟩
      · exact ⟨NdZ, fun h' => absurd h' h⟩
    obtain ⟨f, hf2⟩ := Classical.axiomOfChoice key
    have hlen : ((List.range len).map f).length = len := by simp
    refine ⟨some a, (List.range len).map f, cap, by rw [hlen], ?_, ?_, by rw [hlen]; exact hl, hcm⟩
    · intro i h
      have h' : i < len := by simpa using h
      refine ⟨a.block, a.off, by rw [← (hf2 i h').1], ?_⟩
      simpa using (hf2 i h').2.2
    · intro x hx
      simp only [List.mem_map, List.mem_range] at hx
      obtain ⟨i, h, rfl⟩ := hx
      exact (hf2 i h).2.1
theorem Akcells : Try.prog.cellsOf 64 = 5 := by kernel_rfl
theorem Akc29 : Try.prog.cellsOf 29 = 1 := by kernel_rfl
theorem Akc4 : Try.prog.cellsOf 4 = 1 := by kernel_rfl
set_option maxRecDepth 100000 in
theorem Akelem {H : Type} {enc : TypeId × Value → H} {W : World} {n : Nat} {a : Addr} {i : Nat} {cs : List Value} {y : DataW H × List MemPlace} (hs : a.spot = none) (hc : W.cells? 0 (a.add (i * 5)) 5 = some cs)
    (ht : DataW.trod enc Try.prog W 0 (fun _ => true) true n 64 cs = some y) : ∃ q : AskD, W.cell? ⟨a.block, a.off + i * 5, none⟩ = some (.int .u64 q.m) ∧ W.cell? ⟨a.block, a.off + i * 5 + 1, none⟩ = some (.int .i64 q.lp) ∧ W.cell? ⟨a.block, a.off + i * 5 + 2, none⟩ = some (.int .u64 q.lc) ∧
      W.cell? ⟨a.block, a.off + i * 5 + 3, none⟩ = some (.bool q.nd) ∧ W.cell? ⟨a.block, a.off + i * 5 + 4, none⟩ = some (.slice q.A q.n q.cap) ∧ RunsAt W q.A q.xs ∧ q.ok := by
  obtain ⟨_, hl, hat⟩ := World.cells?_some hc
  obtain ⟨ys, m, _, _, _, hyl, hf⟩ := DataW.trod_struct Try.underlying64 ht
  obtain ⟨c0, c1, c2, c3, c4, rfl⟩ : ∃ c0 c1 c2 c3 c4, cs = [c0, c1, c2, c3, c4] := by
    match cs, hl with
    | [c0, c1, c2, c3, c4], _ => exact ⟨c0, c1, c2, c3, c4, rfl⟩
  have g0 := hf 0 _ rfl
  have g1 := hf 1 _ rfl
  have e0 : ys[0]? = some (ys[0]'(by rw [hyl]; decide)) := List.getElem?_eq_getElem _
  have e1 : ys[1]? = some (ys[1]'(by rw [hyl]; decide)) := List.getElem?_eq_getElem _
  rw [e0] at g0
  rw [e1] at g1
  try simp only [Ndc26, Lncells, List.drop_zero, List.drop_succ_cons, List.take_succ_cons, List.take_zero] at g0
  try simp only [Ndc26, Lncells, List.drop_zero, List.drop_succ_cons, List.take_succ_cons, List.take_zero] at g1
  obtain ⟨s0, q0, _, f0⟩ := DataW.trod_int Try.underlying26 g0
  obtain rfl := (List.cons.inj q0).1
  obtain ⟨zs, m2, _, _, _, hzl, hf2⟩ := DataW.trod_struct Try.underlying31 g1
  have k0 := hf2 0 _ rfl
  have k1 := hf2 1 _ rfl
  have k2 := hf2 2 _ rfl
  have k3 := hf2 3 _ rfl
  rw [show zs[0]? = some (zs[0]'(by rw [hzl]; decide)) from List.getElem?_eq_getElem _] at k0
  rw [show zs[1]? = some (zs[1]'(by rw [hzl]; decide)) from List.getElem?_eq_getElem _] at k1
  rw [show zs[2]? = some (zs[2]'(by rw [hzl]; decide)) from List.getElem?_eq_getElem _] at k2
  rw [show zs[3]? = some (zs[3]'(by rw [hzl]; decide)) from List.getElem?_eq_getElem _] at k3
  try simp only [Ndc3, Ndc26, Akc4, Akc29, List.drop_zero, List.drop_succ_cons, List.take_succ_cons, List.take_zero] at k0
  try simp only [Ndc3, Ndc26, Akc4, Akc29, List.drop_zero, List.drop_succ_cons, List.take_succ_cons, List.take_zero] at k1
  try simp only [Ndc3, Ndc26, Akc4, Akc29, List.drop_zero, List.drop_succ_cons, List.take_succ_cons, List.take_zero] at k2
  try simp only [Ndc3, Ndc26, Akc4, Akc29, List.drop_zero, List.drop_succ_cons, List.take_succ_cons, List.take_zero] at k3
  obtain ⟨s1, q1, _, _⟩ := DataW.trod_int Try.underlying3 k0
  obtain rfl := (List.cons.inj q1).1
  obtain ⟨s2, q2, _, _⟩ := DataW.trod_int Try.underlying26 k1
  obtain rfl := (List.cons.inj q2).1
  obtain ⟨s3, q3, _⟩ := DataW.trod_bool Try.underlying4 k2
  obtain rfl := (List.cons.inj q3).1
  obtain ⟨A, xs, cap, rfl, hr, hok, hle, hcm⟩ := NdopenT k3
  have w0 := hat 0 (by omega)
  have w1 := hat 1 (by omega)
  have w2 := hat 2 (by omega)
  have w3 := hat 3 (by omega)
  have w4 := hat 4 (by omega)
  try simp only [List.getElem?_cons_zero] at w0
  try simp only [List.getElem?_cons_zero, List.getElem?_cons_succ] at w1
  try simp only [List.getElem?_cons_zero, List.getElem?_cons_succ] at w2
  try simp only [List.getElem?_cons_zero, List.getElem?_cons_succ] at w3
  try simp only [List.getElem?_cons_zero, List.getElem?_cons_succ] at w4
  rw [add_at _ (by rw [add_at _ hs]) 0, add_at _ hs] at w0
  rw [add_at _ (by rw [add_at _ hs]) 1, add_at _ hs] at w1
  rw [add_at _ (by rw [add_at _ hs]) 2, add_at _ hs] at w2
  rw [add_at _ (by rw [add_at _ hs]) 3, add_at _ hs] at w3
  rw [add_at _ (by rw [add_at _ hs]) 4, add_at _ hs] at w4
  obtain ⟨u0, u1⟩ := wf_u64 f0
  have hml : maxLen = 9223372036854775807 := by decide
  refine ⟨⟨s0, s1, s2, s3, A, xs.length, cap, xs.take 40⟩, ?_, ?_, ?_, ?_, ?_, ?_, ⟨u0, u1, by simp; omega, hle, by simp [Nat.min_comm], fun x hx => NdOk.ok (hok x (List.mem_of_mem_take hx))⟩⟩
  · simpa [Nat.add_assoc] using w0
  · simpa [Nat.add_assoc] using w1
  · simpa [Nat.add_assoc] using w2
  · simpa [Nat.add_assoc] using w3
  · simpa [Nat.add_assoc] using w4
  · rw [← List.take_append_drop 40 xs] at hr
    exact Ndpre hr
instance : Inhabited AskD := ⟨⟨0, 0, 0, false, none, 0, 0, []⟩⟩
set_option maxRecDepth 100000 in
theorem Akopen {H : Type} {enc : TypeId × Value → H} {W : World} {base : Nat} {v : Value} {d : DataW H} {p : List MemPlace} (hval : Value.okWide Try.prog W .any base 59 v) (hd : DataW.Trod enc Try.prog W 0 (fun _ => true) true 59 v d p) :
    ∃ (AA : Option Addr) (L capA : Nat) (qs : List AskD), v = .slice AA L capA ∧ L ≤ 9223372036854775807 ∧ qs.length = min L 20 ∧ AsksAt W AA qs := by
  obtain ⟨fuel, hf⟩ := hd
  rcases open_slice Try.underlying59 hf with ⟨hc, _⟩ | ⟨a, len, cap, m, n, D, Pl, hc, _, hl, hcm, hmm, hx, hi⟩
  · refine ⟨none, 0, 0, [], ?_, by omega, rfl, (fun i h => absurd h (Nat.not_lt_zero i))⟩
    simp only [Value.okWide, Try.underlying59, Cell.okWide, Cell.ok] at hval
    cases v <;> simp_all [Value.cells]
  · have hv : v = .slice (some a) len cap := by
      simp only [Value.okWide, Try.underlying59, Cell.okWide, Cell.ok] at hval
      cases v <;> simp_all [Value.cells]
    subst hv
    simp only [Value.okWide, Try.underlying59, Cell.okWide, Cell.ok] at hval
    have hs : a.spot = none := hval.2.2.2.1
    have hml : maxLen = 9223372036854775807 := by decide
    have key : ∀ i, ∃ q : AskD, i < len → W.cell? ⟨a.block, a.off + i * 5, none⟩ = some (.int .u64 q.m) ∧ W.cell? ⟨a.block, a.off + i * 5 + 1, none⟩ = some (.int .i64 q.lp) ∧ W.cell? ⟨a.block, a.off + i * 5 + 2, none⟩ = some (.int .u64 q.lc) ∧
      W.cell? ⟨a.block, a.off + i * 5 + 3, none⟩ = some (.bool q.nd) ∧ W.cell? ⟨a.block, a.off + i * 5 + 4, none⟩ = some (.slice q.A q.n q.cap) ∧ RunsAt W q.A q.xs ∧ q.ok := fun i => by
      by_cases h : i < len
      · obtain ⟨cs', h1, h2⟩ := hi i (by rw [hmm]; simp; omega)
        rw [Akcells] at h1
        obtain ⟨q, hq⟩ := Akelem hs h1 h2
        exact ⟨q, fun _ => hq⟩
      · exact ⟨default, fun h' => absurd h' h⟩
    obtain ⟨f, hf2⟩ := Classical.axiomOfChoice key
    refine ⟨some a, len, cap, (List.range (min len 20)).map f, rfl, by omega, by simp, fun i h => ?_⟩
    have h' : i < len := by simp at h; omega
    refine ⟨a.block, a.off, by rw [← hs], ?_⟩
    simpa using hf2 i h'
end Go.Proofs.Ytenfikfgliljmaa.LA
