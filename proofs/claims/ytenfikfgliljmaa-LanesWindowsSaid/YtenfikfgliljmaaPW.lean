/- The law of LanesWindows: in any major frame's worth of ticks a subject runs as often as its slots say; plain. -/
import Derived.Test.YtenfikfgliljmaaPR
namespace Go.Proofs.Ytenfikfgliljmaa.LA
open Go.RowKit
/-- How many of the first k. -/
def cn (q : Nat → Bool) : Nat → Nat
  | 0 => 0
  | k + 1 => cn q k + (if q k = true then 1 else 0)
theorem cn_le (q : Nat → Bool) : ∀ k, cn q k ≤ k
  | 0 => Nat.le_refl _
  | k + 1 => by have := cn_le q k; rw [cn]; split <;> omega
theorem cn_congr {q q' : Nat → Bool} : ∀ k, (∀ u, u < k → q u = q' u) → cn q k = cn q' k
  | 0, _ => rfl
  | k + 1, h => by rw [cn, cn, cn_congr k (fun u hu => h u (by omega)), h k (by omega)]
theorem cn_head (q : Nat → Bool) : ∀ k, cn q (k + 1) = (if q 0 = true then 1 else 0) + cn (fun u => q (u + 1)) k
  | 0 => by simp [cn]
  | k + 1 => by rw [cn, cn_head q k, cn]; omega
theorem cn_list (p : ByteArray → Bool) (d : ByteArray) : ∀ l : List ByteArray, cn (fun u => p (l.getD u d)) l.length = l.countP p
  | [] => rfl
  | x :: l => by
    rw [List.length_cons, cn_head, List.countP_cons, ← cn_list p d l]
    simp only [List.getD_cons_zero, List.getD_cons_succ]
    omega
/-- The frame turns: from wherever it is counted. -/
theorem cn_turn (q : Nat → Bool) (M : Nat) : ∀ f, cn (fun u => q ((f + u) % M)) M = cn (fun u => q (u % M)) M
  | 0 => by simp
  | f + 1 => by
    rw [← cn_turn q M f]
    have h1 := cn_head (fun u => q ((f + u) % M)) M
    rw [cn] at h1
    have h2 : cn (fun u => q ((f + (u + 1)) % M)) M = cn (fun u => q ((f + 1 + u) % M)) M := cn_congr M fun u _ => by rw [show f + (u + 1) = f + 1 + u by omega]
    rw [h2] at h1
    simp only [Nat.add_zero, Nat.add_mod_right] at h1
    omega
/-- Does the subject run at the tick? -/
def hitW (row : List Slot) (M f : Nat) (s : ByteArray) (u : Nat) : Bool := s.toList == (findAt (((f + u) % M : Nat) : Int) row).1.toList
theorem window {N : List ByteArray} (s : ByteArray) (f : Nat) (h0 : 0 < N.length) (hN : N.length ≤ 65536) : (cn (hitW (rowTk N) N.length f s) N.length : Int) = budL s (rowTk N) := by
  obtain ⟨h1, h2, h3⟩ := rowTk_facts N
  have hl : (expand (rowTk N)).length = N.length := by have := expand_len h1; omega
  have e1 : cn (hitW (rowTk N) N.length f s) N.length = cn (fun u => (fun v => s.toList == (findAt ((v : Nat) : Int) (rowTk N)).1.toList) ((f + u) % N.length)) N.length := rfl
  rw [e1, cn_turn (fun v => s.toList == (findAt ((v : Nat) : Int) (rowTk N)).1.toList)]
  have e2 : cn (fun u => s.toList == (findAt ((u % N.length : Nat) : Int) (rowTk N)).1.toList) N.length = cn (fun u => ((fun x : ByteArray => x.toList == s.toList) ((expand (rowTk N)).getD u ⟨#[]⟩))) (expand (rowTk N)).length := by
    rw [hl]
    apply cn_congr
    intro u hu
    have he := (find_expand (o := (u : Int)) h1 (by omega) (by omega)).1
    simp only [Int.sub_zero, Int.toNat_natCast] at he
    rw [Nat.mod_eq_of_lt hu, List.getD_eq_getElem?_getD, he]
    simp only [Option.getD_some]
    rw [Bool.eq_iff_iff, beq_iff_eq, beq_iff_eq]
    exact ⟨fun h => h.symm, fun h => h.symm⟩
  rw [e2, bud_expand s h1 (Int.le_refl 0) (by omega)]
  have := cn_list (fun x : ByteArray => x.toList == s.toList) ⟨#[]⟩ (expand (rowTk N))
  rw [this]
  rfl
theorem check_err {major : Int} {needs : Bool} : ∀ {xs : List Need} {i s : Int} {p : Int × Int}, checkL major needs xs i s = .error p → p.2 ≠ 0
  | [], i, s, p, h => by simp [checkL] at h
  | x :: r, i, s, p, h => by
    simp only [checkL] at h
    split at h
    · rename_i h1
      cases h; exact h1
    · split at h
      · cases h; simp
      · exact check_err h
/-- What Flatten answers: a refusal, or a row of the frame's ticks. -/
theorem flat_cases (M : Nat) (xs : List Need) (needs : Bool) (hok : ∀ x, x ∈ xs → x.ok) :
    (∃ i r, r ≠ 0 ∧ flatL M xs needs = ([], i, r)) ∨ (1 ≤ M ∧ M ≤ 65536 ∧ ∃ N : List ByteArray, N.length = M ∧ (rowTk N).length ≤ 4096 ∧ flatL M xs needs = (rowTk N, 0, 0)) := by
  unfold flatL
  by_cases hM : (M : Int) < 1 ∨ 65536 < (M : Int)
  · rw [if_pos hM]; exact .inl ⟨-1, 92, by omega, rfl⟩
  · rw [if_neg hM]
    cases hc : checkL (M : Int) needs xs 0 0 with
    | error p => exact .inl ⟨p.1, p.2, check_err hc, rfl⟩
    | ok s =>
      obtain ⟨a, b, c⟩ := check_ok hc
      have hs := c (by omega)
      have hp : ∀ x, x ∈ xs → 1 ≤ x.budget := fun x hx => (right_in (hok x hx) (b x hx)).pos
      have hsum : needs = false → sumW M false xs ≤ M := fun e => by subst e; omega
      have hl := ticks_len (M := M) (xs := xs) (needs := needs) hp hsum
      have hn := flat_names (M := M) (xs := xs) (needs := needs) hp hsum
      by_cases hb : 4096 < (flatRow (M : Int) xs needs).length
      · simp only [flatE]; rw [if_pos hb]; exact .inl ⟨-1, 4, by omega, rfl⟩
      · simp only [flatE]; rw [if_neg hb]
        refine .inr ⟨by omega, by omega, (ticksL M xs needs).map (nameOf xs), by rw [List.length_map, hl], by rw [← hn]; omega, by rw [hn]⟩
theorem sched_window {M f u : Nat} {N : List ByteArray} {row : List Slot} (h : TickRow M N row) (hM : 1 ≤ M) : schedL row ((f + u : Nat) : Int) = findAt (((f + u) % M : Nat) : Int) row := by
  unfold schedL
  rw [h.len, if_neg (by omega), show max ((f + u : Nat) : Int) 0 = ((f + u : Nat) : Int) by omega, ← Int.natCast_emod]
end Go.Proofs.Ytenfikfgliljmaa.LA
