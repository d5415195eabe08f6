/- lanes.earliest keeps to the earliest deadline first: its steps. -/
import Derived.Test.YtenfikfgliljmaaU
namespace Go.Proofs.Ytenfikfgliljmaa.LA
open Go.Proofs.Ytenfikfgliljmaa.LT

theorem best_congr {l d l' d' : Nat → Nat} : ∀ {n : Nat}, (∀ i, i < n → l i = l' i ∧ d i = d' i) → best l d n = best l' d' n
  | 0, _ => rfl
  | n + 1, h => by
    simp only [best]
    rw [best_congr fun i hi => h i (by omega), (h n (by omega)).1, (h n (by omega)).2]
    cases hb : best l' d' n with
    | none => rfl
    | some b => have := best_some hb; simp only [(h b (by omega)).2]

section
variable {P B : Nat → Nat} {n : Nat}
/-- A stretch without a release, in which the same one runs, or nobody. -/
theorem steady {w : Option Nat} {t U : Nat} (hp : ∀ i, i < n → 0 < P i) (hrel : ∀ i, i < n → ∀ u, t < u → u < U → u % P i ≠ 0) (k : Nat) (hk : t + k ≤ U)
    (hwho : ∀ m, m < k → best (fun j => lf P B n t j - (if w = some j then m else 0)) (fun j => LT.due P j t) n = w) :
    (∀ m, m < k → who P B n (t + m) = w ∧ ∀ i, i < n → lf P B n (t + m) i = lf P B n t i - (if w = some i then m else 0)) ∧
      (0 < k → ∀ i, i < n → pre P B n (t + k) i = lf P B n t i - (if w = some i then k else 0)) := by
  have hdue : ∀ m, t + m < U → ∀ i, i < n → LT.due P i (t + m) = LT.due P i t := by
    intro m
    induction m with
    | zero => intros; rfl
    | succ m ih =>
      intro h i hi
      rw [show t + (m + 1) = (t + m) + 1 by omega, due_same (hp i hi) (hrel i hi _ (by omega) (by omega)), ih (by omega) i hi]
  have key : ∀ m, m < k → who P B n (t + m) = w ∧ ∀ i, i < n → lf P B n (t + m) i = lf P B n t i - (if w = some i then m else 0) := by
    intro m
    induction m with
    | zero =>
      intro h
      refine ⟨?_, fun i hi => by simp⟩
      rw [← hwho 0 h]
      exact best_congr fun i hi => ⟨by simp, rfl⟩
    | succ m ih =>
      intro h
      obtain ⟨h1, h2⟩ := ih (by omega)
      have hl : ∀ i, i < n → lf P B n (t + (m + 1)) i = lf P B n t i - (if w = some i then m + 1 else 0) := by
        intro i hi
        rw [show t + (m + 1) = (t + m) + 1 by omega, lf_succ, if_neg (hrel i hi _ (by omega) (by omega)), pre, h1, h2 i hi]
        by_cases e : w = some i
        · simp only [if_pos e]; omega
        · simp only [if_neg e]; omega
      refine ⟨?_, hl⟩
      rw [← hwho (m + 1) h]
      exact best_congr fun i hi => ⟨hl i hi, hdue (m + 1) (by omega) i hi⟩
  refine ⟨key, fun h0 i hi => ?_⟩
  obtain ⟨m, rfl⟩ : ∃ m, k = m + 1 := ⟨k - 1, by omega⟩
  obtain ⟨h1, h2⟩ := key m (by omega)
  rw [show t + (m + 1) = (t + m) + 1 by omega, pre, h1, h2 i hi]
  by_cases e : w = some i
  · simp only [if_pos e]; omega
  · simp only [if_neg e]; omega
end

section
variable {xs : List Need} {M : Nat}

theorem core_init (F : Fit xs M) : Core xs 0 ⟨0, [], [], initNext xs.length⟩ where
  now := rfl
  row := rfl
  hw := fun i h1 h2 => absurd h2 (Nat.not_lt_zero i)
  hn := fun i h1 h2 => by
    rw [initNext_length] at h2
    rw [leJ_iff, at', at', initNext_get _ _ h2, initNext_get _ _ (by omega)]
    simp; omega
  wn := List.nodup_nil
  nn := by
    rw [initNext, List.map_map]
    rw [show ((fun x : Job => x.need) ∘ fun (i : Nat) => (⟨(i : Int), 0, 0⟩ : Job)) = fun (i : Nat) => (i : Int) from rfl]
    rw [List.nodup_iff_pairwise_ne, List.pairwise_map]
    exact (List.nodup_range (n := xs.length)).imp fun h e => h (by omega)
  nx := fun x hx => by
    simp only [initNext, List.mem_map, List.mem_range] at hx
    obtain ⟨i, hi, rfl⟩ := hx
    exact ⟨i, hi, rfl, rfl, .inl ⟨rfl, by simp⟩⟩
  nall := fun i hi => ⟨⟨(i : Int), 0, 0⟩, by simp only [initNext, List.mem_map, List.mem_range]; exact ⟨i, hi, rfl⟩, rfl⟩
  wx := fun x hx => by cases hx
  wall := fun i hi _ h => by
    have := h ⟨(i : Int), 0, 0⟩ (by simp only [initNext, List.mem_map, List.mem_range]; exact ⟨i, hi, rfl⟩) rfl
    have h2 := lt_due (P := Pf xs) (i := i) (t := 0) (F.fair.p i hi)
    simp only [duex] at this
    omega

theorem core_lens {t : Nat} {st : St} (C : Core xs t st) : st.wait.length ≤ xs.length ∧ st.next.length ≤ xs.length := by
  constructor
  · have := nodup_len xs.length (st.wait.map (·.need)) C.wn (fun x hx => by
      obtain ⟨y, hy, rfl⟩ := List.mem_map.1 hx
      obtain ⟨i, hi, e, _⟩ := C.wx y hy
      omega)
    simpa using this
  · have := nodup_len xs.length (st.next.map (·.need)) C.nn (fun x hx => by
      obtain ⟨y, hy, rfl⟩ := List.mem_map.1 hx
      obtain ⟨i, hi, e, _⟩ := C.nx y hy
      omega)
    simpa using this

theorem lfx_le (F : Fit xs M) : ∀ t i, i < xs.length → lfx xs t i ≤ Bf xs i
  | 0, i, _ => Nat.le_refl _
  | t + 1, i, hi => by
    unfold lfx
    rw [lf_succ]
    split
    · exact Nat.le_refl _
    · have := lfx_le F t i hi
      unfold lfx at this
      rw [pre]; omega

theorem duex_le (F : Fit xs M) {t i : Nat} (hi : i < xs.length) : duex xs i t ≤ t + M := by
  have hp := F.fair.p i hi
  have := (F.ok i hi).2.2.1
  have h2 : t / Pf xs i * Pf xs i ≤ t := Nat.div_mul_le_self _ _
  unfold duex LT.due
  rw [Nat.add_mul, Nat.one_mul]; omega

theorem core_bd (F : Fit xs M) {t : Nat} {st : St} (C : Core xs t st) (ht : t < M) : Bd xs.length M st := by
  have hl := core_lens C
  have hM := F.m1
  have hx := F.len
  refine ⟨by rw [C.now]; omega, by rw [C.now]; omega, ?_, ?_, by omega, by omega, ?_, ?_, ?_⟩
  · rw [C.row]; have := length_rowOf (whoF xs) t; omega
  · rw [C.row, endL_rowOf, C.now]
  · intro x hx
    obtain ⟨i, hi, e1, e2, e3, e4, _⟩ := C.wx x hx
    have := lfx_le F t i hi
    have := (F.ok i hi).2.1
    have := (F.ok i hi).2.2.1
    have := duex_le F (t := t) hi
    exact ⟨by omega, by omega, by omega, by omega, by omega, by omega⟩
  · intro x hx
    obtain ⟨i, hi, e1, e2, e3⟩ := C.nx x hx
    have := duex_le F (t := t) hi
    exact ⟨by omega, by omega, by omega, by omega, by omega, by omega⟩
  · intro x hx
    obtain ⟨i, hi, e1, e2, e3, e4, _⟩ := C.wx x (List.mem_of_getElem? hx)
    omega

/-- How many are still to be released at this tick. -/
def muS (st : St) : Nat := st.next.countP fun x => decide (x.due = st.now)

theorem cons_of_get {l : List Job} {x : Job} (h : l[0]? = some x) : ∃ r, l = x :: r := by
  cases l with
  | nil => simp at h
  | cons a l => simp at h; exact ⟨l, by rw [h]⟩

theorem core_inner (F : Fit xs M) {t : Nat} {st : St} (C : Core xs t st) (x : Job) (hx : st.next[0]? = some x) (hd : x.due = st.now) :
    Core xs t (innerSt xs st x) ∧ muS (innerSt xs st x) < muS st := by
  obtain ⟨r, hr⟩ := cons_of_get hx
  obtain ⟨i, hi, e1, e2, e3⟩ := C.nx x (by rw [hr]; exact List.mem_cons_self)
  have hp := F.fair.p i hi
  have hlt := lt_due (P := Pf xs) (i := i) (t := t) hp
  rw [C.now] at hd
  have hm : t % Pf xs i = 0 := by
    rcases e3 with h | h
    · exact h.2
    · unfold duex at h; omega
  have hdu : duex xs i t = t + Pf xs i := due_of_mul hm
  have hB := F.ok i hi
  have hN := F.nat i hi
  have hlf : lfx xs t i = Bf xs i := by unfold lfx; rw [lf_eq, if_pos hm]
  have hni : x.need.toNat = i := by omega
  have hst : innerSt xs st x = ⟨st.now, st.row, upL (st.wait ++ [⟨x.need, (duex xs i t : Int), (lfx xs t i : Int)⟩]) st.wait.length, (downL (st.next.set 0 ⟨x.need, (duex xs i t : Int), 0⟩) 0 st.next.length).1⟩ := by
    unfold innerSt
    rw [hni, hN.1, hN.2, C.now, hd, e2, hdu, hlf]
    simp
  have hset : st.next.set 0 ⟨x.need, (duex xs i t : Int), 0⟩ = ⟨x.need, (duex xs i t : Int), 0⟩ :: r := by rw [hr]; rfl
  obtain ⟨u1, u2⟩ := push_heap st.wait ⟨x.need, (duex xs i t : Int), (lfx xs t i : Int)⟩ C.hw
  obtain ⟨v1, v2⟩ := fix_heap st.next ⟨x.need, (duex xs i t : Int), 0⟩ C.hn (by rw [hr]; simp)
  replace v2 := v2.trans (List.Perm.of_eq hset)
  rw [hst]
  generalize upL (st.wait ++ [⟨x.need, (duex xs i t : Int), (lfx xs t i : Int)⟩]) st.wait.length = wt at *
  generalize hnt : (downL (st.next.set 0 ⟨x.need, (duex xs i t : Int), 0⟩) 0 st.next.length).1 = nt at *
  have hnn := C.nn
  rw [hr] at hnn
  simp only [List.map_cons, List.nodup_cons] at hnn
  have memn : ∀ y, y ∈ nt ↔ y = ⟨x.need, (duex xs i t : Int), 0⟩ ∨ y ∈ r := fun y => by rw [v2.mem_iff, List.mem_cons]
  have memw : ∀ y, y ∈ wt ↔ y = ⟨x.need, (duex xs i t : Int), (lfx xs t i : Int)⟩ ∨ y ∈ st.wait := fun y => by rw [u2.mem_iff, List.mem_cons]
  have rn : ∀ y, y ∈ r → y.need ≠ x.need := fun y hy e => hnn.1 (List.mem_map.2 ⟨y, hy, e⟩)
  have wneed : ∀ y, y ∈ st.wait → y.need ≠ x.need := fun y hy e => by
    obtain ⟨j, hj, f1, f2, f3, f4, f5⟩ := C.wx y hy
    have := f5 x (by rw [hr]; exact List.mem_cons_self) (by omega)
    have : i = j := by omega
    subst this
    omega
  refine ⟨⟨C.now, C.row, ?_, ?_, ?_, ?_, ?_, ?_, ?_, ?_⟩, ?_⟩
  · show Heap wt wt.length
    rw [u2.length_eq]; exact u1
  · show Heap nt nt.length
    rw [v2.length_eq, show (⟨x.need, (duex xs i t : Int), 0⟩ :: r).length = st.next.length by rw [hr]; rfl]; exact v1
  · show (wt.map (·.need)).Nodup
    rw [(u2.map _).nodup_iff]
    simp only [List.map_cons, List.nodup_cons]
    exact ⟨fun hm => by obtain ⟨y, hy, e⟩ := List.mem_map.1 hm; exact wneed y hy e, C.wn⟩
  · show (nt.map (·.need)).Nodup
    rw [(v2.map _).nodup_iff]
    simp only [List.map_cons, List.nodup_cons]
    exact hnn
  · intro y hy
    rcases (memn y).1 hy with rfl | hy
    · exact ⟨i, hi, e1, rfl, .inr rfl⟩
    · exact C.nx y (by rw [hr]; exact List.mem_cons_of_mem _ hy)
  · intro j hj
    obtain ⟨y, hy, e⟩ := C.nall j hj
    rw [hr] at hy
    rcases List.mem_cons.1 hy with rfl | hy
    · exact ⟨_, (memn _).2 (.inl rfl), e⟩
    · exact ⟨y, (memn y).2 (.inr hy), e⟩
  · intro y hy
    rcases (memw y).1 hy with rfl | hy
    · refine ⟨i, hi, e1, rfl, rfl, by omega, fun z hz hze => ?_⟩
      rcases (memn z).1 hz with rfl | hz
      · rfl
      · exact absurd (by omega) (rn z hz)
    · obtain ⟨j, hj, f1, f2, f3, f4, f5⟩ := C.wx y hy
      refine ⟨j, hj, f1, f2, f3, f4, fun z hz hze => ?_⟩
      rcases (memn z).1 hz with rfl | hz
      · exact absurd (by rw [f1]; exact hze.symm) (wneed y hy)
      · exact f5 z (by rw [hr]; exact List.mem_cons_of_mem _ hz) hze
  · intro j hj hl hall
    by_cases e : j = i
    · subst e
      exact ⟨_, (memw _).2 (.inl rfl), e1⟩
    · obtain ⟨y, hy, ey⟩ := C.wall j hj hl (fun z hz hze => by
        rw [hr] at hz
        rcases List.mem_cons.1 hz with rfl | hz
        · omega
        · exact hall z ((memn z).2 (.inr hz)) hze)
      exact ⟨y, (memw y).2 (.inr hy), ey⟩
  · unfold muS
    simp only
    rw [v2.countP_eq, hr, List.countP_cons_of_neg (by rw [C.now]; simp; omega), List.countP_cons_of_pos (by rw [C.now]; simp; omega)]
    omega
end
end Go.Proofs.Ytenfikfgliljmaa.LA
