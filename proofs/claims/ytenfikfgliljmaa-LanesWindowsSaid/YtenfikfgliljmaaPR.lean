/- The law of LanesRuns: whose each tick of runs is; plain. -/
import Derived.Test.YtenfikfgliljmaaPC
namespace Go.Proofs.Ytenfikfgliljmaa.LA
open Go.RowKit
theorem runsTicks_append : ∀ (a b : List Need) (k : Nat), runsTicks k (a ++ b) = runsTicks k a ++ runsTicks (k + a.length) b
  | [], b, k => rfl
  | x :: a, b, k => by
    simp only [List.cons_append, runsTicks, runsTicks_append a b (k + 1), List.append_assoc, List.length_cons]
    rw [show k + 1 + a.length = k + (a.length + 1) by omega]
/-- Where the run i begins. -/
def offN (xs : List Need) (i : Nat) : Nat := (runsTicks 0 (xs.take i)).length
theorem offN_zero (xs : List Need) : offN xs 0 = 0 := rfl
theorem offN_succ {xs : List Need} {i : Nat} (h : i < xs.length) : offN xs (i + 1) = offN xs i + xs[i].budget.toNat := by
  unfold offN
  rw [List.take_succ_eq_append_getElem h, runsTicks_append, List.length_append]
  congr 1
  simp [runsTicks]
theorem offN_all (xs : List Need) : offN xs xs.length = (runsTicks 0 xs).length := by unfold offN; rw [List.take_length]
theorem offN_sum {xs : List Need} (h : ∀ x, x ∈ xs → 1 ≤ x.budget) (i : Nat) (major : Int) : (offN xs i : Int) = sumW major false (xs.take i) :=
  runsTicks_len (xs.take i) 0 major fun x hx => h x (List.mem_of_mem_take hx)
theorem offN_le {xs : List Need} {i : Nat} (_h : i < xs.length) : offN xs (i + 1) ≤ (runsTicks 0 xs).length := by
  have := runsTicks_append (xs.take (i + 1)) (xs.drop (i + 1)) 0
  rw [List.take_append_drop] at this
  unfold offN
  rw [this, List.length_append]; omega
/-- A run's ticks are its own. -/
theorem run_tick {M : Nat} {xs : List Need} {i j : Nat} (h : i < xs.length) (hj : j < xs[i].budget.toNat) (ht : offN xs i + j < (ticksL M xs false).length) : (ticksL M xs false)[offN xs i + j] = (i : Int) := by
  have e : xs = xs.take i ++ xs[i] :: xs.drop (i + 1) := by rw [← List.drop_eq_getElem_cons h, List.take_append_drop]
  have e2 : runsTicks 0 xs = runsTicks 0 (xs.take i) ++ (List.replicate xs[i].budget.toNat (i : Int) ++ runsTicks (i + 1) (xs.drop (i + 1))) := by
    have := runsTicks_append (xs.take i) (xs[i] :: xs.drop (i + 1)) 0
    rw [← e] at this
    rw [this]
    have hl : 0 + (xs.take i).length = i := by rw [List.length_take]; omega
    rw [hl]; rfl
  have e3 : ticksL M xs false = runsTicks 0 (xs.take i) ++ ((List.replicate xs[i].budget.toNat (i : Int) ++ runsTicks (i + 1) (xs.drop (i + 1))) ++ List.replicate (M - (runsTicks 0 xs).length) (-1)) := by
    unfold ticksL
    rw [if_neg (by simp), ← List.append_assoc, ← e2]
  have key : (ticksL M xs false)[offN xs i + j]? = some (i : Int) := by
    rw [e3]
    unfold offN
    rw [List.getElem?_append_right (by omega), show (runsTicks 0 (xs.take i)).length + j - (runsTicks 0 (xs.take i)).length = j by omega, List.append_assoc, List.getElem?_append_left (by simp; omega), List.getElem?_replicate, if_pos hj]
  rw [List.getElem?_eq_getElem ht] at key
  simpa using key
/-- Behind the runs the ticks are nobody's. -/
theorem idle_tick {M : Nat} {xs : List Need} {t : Nat} (h : (runsTicks 0 xs).length ≤ t) (ht : t < (ticksL M xs false).length) : (ticksL M xs false)[t] = -1 := by
  have hl : t < (runsTicks 0 xs ++ List.replicate (M - (runsTicks 0 xs).length) (-1 : Int)).length := by
    unfold ticksL at ht; rw [if_neg (by simp)] at ht; exact ht
  have key : (ticksL M xs false)[t]? = some (-1) := by
    unfold ticksL
    rw [if_neg (by simp), List.getElem?_append_right h, List.getElem?_replicate, if_pos (by simp at hl; omega)]
  rw [List.getElem?_eq_getElem ht] at key
  simpa using key
/-- What Flatten answers of runs whose numbers are right. -/
theorem flat_runs {M : Nat} {xs : List Need} (hm1 : M ≤ 65536) (hok : ∀ x, x ∈ xs → 1 ≤ x.budget ∧ x.budget ≤ M) :
    (M = 0 → xs = [] ∧ flatL M xs false = ([], -1, 92)) ∧
    (1 ≤ M → sumW M false xs ≤ M → flatL M xs false = (if 4096 < (flatRow M xs false).length then ([], -1, 4) else (flatRow M xs false, 0, 0))) ∧
    ((M : Int) < sumW M false xs → ∃ j : Int, flatL M xs false = ([], j, 93)) := by
  have hw : ∀ x, x ∈ xs → wrongC (M : Int) x false = 0 := fun x hx => by
    have := hok x hx
    unfold wrongC; rw [if_neg (by omega), if_pos rfl]
  have hp : ∀ x, x ∈ xs → 0 ≤ wantsC (M : Int) x false := fun x hx => by
    have := hok x hx
    unfold wantsC; rw [if_neg (by simp)]; omega
  have hc := check_all (major := (M : Int)) (needs := false) (xs := xs) (i := 0) (s := 0) hw hp (by omega)
  rw [Int.zero_add, Int.zero_add] at hc
  have h0 : M = 0 → xs = [] := fun h => by
    cases xs with
    | nil => rfl
    | cons x r => have := hok x List.mem_cons_self; omega
  refine ⟨fun h => ⟨h0 h, by unfold flatL; rw [if_pos (by omega)]⟩, fun h1 h => ?_, fun h => ?_⟩
  · unfold flatL
    rw [if_neg (by omega), hc.1 h]
    simp only [flatE]
  · have h1 : 1 ≤ M := by
      by_cases e : M = 0
      · have e2 := h0 e; subst e2; simp [sumW] at h; omega
      · omega
    obtain ⟨j, _, _, h3⟩ := hc.2 h
    refine ⟨j, ?_⟩
    unfold flatL
    rw [if_neg (by omega), h3]; rfl
/-- A row of ticks: who runs at each of them. -/
structure TickRow (M : Nat) (N : List ByteArray) (row : List Slot) : Prop where
  len : rowLen row = M
  ok : SlotsOk row
  find : ∀ t (h : t < N.length), (findAt t row).1.toList = N[t].toList ∧ 1 ≤ (findAt t row).2 ∧ (findAt t row).2 ≤ M
theorem findAt_le {o e : Int} : ∀ {ys : List Slot} {p : Option ByteArray}, Ch p e ys → 0 ≤ e → 0 ≤ o → (findAt o ys).2 ≤ endFrom e ys
  | [], _, _, h0, _ => h0
  | x :: r, p, h, h0, ho => by
    obtain ⟨a, b, c, d⟩ := h
    have hle := endFrom_le d
    simp only [findAt, endFrom]
    split
    · simp only; omega
    · exact findAt_le d (by omega) ho
theorem tickRow (N : List ByteArray) (hN : N.length ≤ 65536) : TickRow N.length N (rowTk N) := by
  obtain ⟨h1, h2, h3⟩ := rowTk_facts N
  refine ⟨by unfold rowLen; rw [rowGo_Ch h1, h3], fun x hx => ?_, fun t ht => ?_⟩
  · have := Ch_mem h1 x hx
    rw [h3] at this
    omega
  · have he := find_expand (o := (t : Int)) h1 (by omega) (by omega)
    simp only [Int.sub_zero, Int.toNat_natCast] at he
    have h4 : ((expand (rowTk N)).map ByteArray.toList)[t]? = (N.map ByteArray.toList)[t]? := by rw [h2]
    rw [List.getElem?_map, List.getElem?_map, he.1, List.getElem?_eq_getElem ht] at h4
    refine ⟨by simpa using h4, he.2, ?_⟩
    have := findAt_le (o := (t : Int)) h1 (Int.le_refl 0) (by omega)
    omega
theorem sched_tick {M t : Nat} {N : List ByteArray} {row : List Slot} (h : TickRow M N row) (ht : t < M) : schedL row t = findAt t row := by
  unfold schedL
  rw [h.len, if_neg (by omega), show max (t : Int) 0 = t by omega, Int.emod_eq_of_lt (by omega) (by omega)]
/-- What was answered the tick before, where each tick is asked. -/
def LeftOk (st t : Nat) (row : List Slot) (b : ByteArray) (l : Int) : Prop := st = 1 → (t = 0 ∧ l = 0) ∨ (1 ≤ t ∧ findAt ((t : Int) - 1) row = (b, l))
theorem LeftOk.next {t : Nat} {row : List Slot} {b : ByteArray} {l : Int} (h : LeftOk 1 t row b l) (hl : 1 < l) : findAt t row = (b, l - 1) := by
  rcases h rfl with ⟨_, h0⟩ | ⟨h1, h2⟩
  · omega
  · have := find_next h2 hl
    rwa [show (t : Int) - 1 + 1 = t by omega] at this
theorem LeftOk.step {t st : Nat} {row : List Slot} : LeftOk st (t + 1) row (findAt t row).1 (findAt t row).2 := fun _ => .inr ⟨by omega, by simp⟩
theorem LeftOk.skip {t st : Nat} {row : List Slot} {b : ByteArray} {l : Int} (h : st ≠ 1) : LeftOk st (t + 1) row b l := fun e => absurd e h
end Go.Proofs.Ytenfikfgliljmaa.LA
