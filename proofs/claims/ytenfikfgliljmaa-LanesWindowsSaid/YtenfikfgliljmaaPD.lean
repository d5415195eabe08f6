/- A row of slots and its ticks: each tick's name, the row's length, who runs at a tick, how many ticks a subject has; plain. -/
import Derived.Test.YtenfikfgliljmaaMB
namespace Go.Proofs.Ytenfikfgliljmaa.LA
open Go.RowKit
/-- A row of ticks, by name. -/
def rowTk (N : List ByteArray) : List Slot := N.foldl (fun ys s => runL ys s 1) []
theorem rowTk_snoc (N : List ByteArray) (s : ByteArray) : rowTk (N ++ [s]) = runL (rowTk N) s 1 := by simp [rowTk]
theorem rowT_names (xs : List Need) : ∀ (T : List Int) (ys : List Slot), rowT xs ys T = (T.map (nameOf xs)).foldl (fun ys s => runL ys s 1) ys
  | [], _ => rfl
  | i :: T, ys => rowT_names xs T (runL ys (nameOf xs i) 1)
theorem rowOf_names (f : Nat → ByteArray) : ∀ M, rowOf f M = rowTk ((List.range M).map f)
  | 0 => rfl
  | M + 1 => by rw [List.range_succ, List.map_append, List.map_singleton, rowTk_snoc, ← rowOf_names f M]; rfl

/-- The slots one behind the other, none empty, no two of one subject side by side. -/
def Ch : Option ByteArray → Int → List Slot → Prop
  | _, _, [] => True
  | p, e, x :: r => x.lo = e ∧ e < x.hi ∧ sameB p x.subj = false ∧ Ch (some x.subj) x.hi r
/-- Where a row that begins at e ends. -/
def endFrom : Int → List Slot → Int
  | e, [] => e
  | _, x :: r => endFrom x.hi r
def lastS : Option ByteArray → List Slot → Option ByteArray
  | p, [] => p
  | _, x :: r => lastS (some x.subj) r
theorem endFrom_snoc : ∀ (zs : List Slot) (y : Slot) (e : Int), endFrom e (zs ++ [y]) = y.hi
  | [], _, _ => rfl
  | x :: r, y, _ => endFrom_snoc r y x.hi
theorem lastS_snoc : ∀ (zs : List Slot) (y : Slot) (p : Option ByteArray), lastS p (zs ++ [y]) = some y.subj
  | [], _, _ => rfl
  | x :: r, y, _ => lastS_snoc r y (some x.subj)
theorem Ch_snoc : ∀ (zs : List Slot) (y : Slot) (p : Option ByteArray) (e : Int), Ch p e (zs ++ [y]) ↔ Ch p e zs ∧ y.lo = endFrom e zs ∧ endFrom e zs < y.hi ∧ sameB (lastS p zs) y.subj = false
  | [], y, p, e => by simp [Ch, endFrom, lastS]
  | x :: r, y, p, e => by
    have ih := Ch_snoc r y (some x.subj) x.hi
    simp only [List.cons_append, Ch, endFrom, lastS, ih]
    constructor
    · rintro ⟨a, b, c, d, f⟩; exact ⟨⟨a, b, c, d⟩, f⟩
    · rintro ⟨⟨a, b, c, d⟩, f⟩; exact ⟨a, b, c, d, f⟩
theorem endFrom_le : ∀ {ys : List Slot} {p : Option ByteArray} {e : Int}, Ch p e ys → e ≤ endFrom e ys
  | [], _, _, _ => Int.le_refl _
  | x :: r, p, e, h => by have := endFrom_le h.2.2.2; have := h.2.1; simp only [endFrom]; omega
/-- The name of each tick. -/
def expand : List Slot → List ByteArray
  | [] => []
  | x :: r => List.replicate (x.hi - x.lo).toNat x.subj ++ expand r
theorem expand_append : ∀ a b, expand (a ++ b) = expand a ++ expand b
  | [], b => rfl
  | x :: r, b => by simp only [List.cons_append, expand, expand_append r b, List.append_assoc]
theorem expand_len : ∀ {ys : List Slot} {p : Option ByteArray} {e : Int}, Ch p e ys → ((expand ys).length : Int) = endFrom e ys - e
  | [], _, _, _ => by simp [expand, endFrom]
  | x :: r, p, e, h => by
    have ih := expand_len h.2.2.2
    have h1 := h.1; have h2 := h.2.1
    simp only [expand, endFrom, List.length_append, List.length_replicate]
    omega
/-- What a row of ticks is like. -/
theorem rowTk_facts (N : List ByteArray) : Ch none 0 (rowTk N) ∧ (expand (rowTk N)).map ByteArray.toList = N.map ByteArray.toList ∧ endFrom 0 (rowTk N) = N.length := by
  have key : ∀ (R : List ByteArray), Ch none 0 (rowTk R.reverse) ∧ (expand (rowTk R.reverse)).map ByteArray.toList = R.reverse.map ByteArray.toList ∧ endFrom 0 (rowTk R.reverse) = R.reverse.length := by
    intro R
    induction R with
    | nil => exact ⟨trivial, rfl, rfl⟩
    | cons s R ih =>
      rw [List.reverse_cons, rowTk_snoc]
      obtain ⟨h1, h2, h3⟩ := ih
      rcases list_cases (rowTk R.reverse) with e | ⟨zs, y, e⟩
      · rw [e] at h2 h3
        rw [e, runL_nil]
        have h4 : R.reverse = [] := by
          have := congrArg List.length h2
          simp [expand] at this
          have h5 : R = [] := List.eq_nil_of_length_eq_zero (by omega)
          rw [h5]; rfl
        rw [h4]
        exact ⟨⟨rfl, by simp, rfl, trivial⟩, rfl, rfl⟩
      · rw [e] at h1 h2 h3
        rw [e, runL_concat]
        have hc := (Ch_snoc zs y none 0).1 h1
        rw [endFrom_snoc] at h3
        by_cases hs : (y.subj.toList == s.toList) = true
        · rw [if_pos hs]
          refine ⟨(Ch_snoc zs _ none 0).2 ⟨hc.1, hc.2.1, by have := hc.2.2.1; simp only; omega, hc.2.2.2⟩, ?_, ?_⟩
          · rw [expand_append, List.map_append] at h2 ⊢
            rw [List.map_append, ← h2, List.append_assoc]
            congr 1
            have hlt := hc.2.2.1
            have hlo := hc.2.1
            simp only [expand, List.append_nil]
            rw [show (y.hi + 1 - y.lo).toNat = (y.hi - y.lo).toNat + 1 by omega, List.replicate_succ', List.map_append]
            congr 1
            simp [eq_of_beq hs]
          · rw [endFrom_snoc, List.length_append]; simp only [List.length_singleton]; omega
        · rw [if_neg hs]
          refine ⟨(Ch_snoc (zs ++ [y]) _ none 0).2 ⟨h1, by rw [endFrom_snoc], by rw [endFrom_snoc]; simp only; omega, ?_⟩, ?_, ?_⟩
          · rw [lastS_snoc]
            have : (s.toList == y.subj.toList) = false := by
              rw [beq_eq_false_iff_ne]; intro h; exact hs (by rw [h]; simp)
            exact this
          · rw [expand_append, List.map_append, List.map_append, h2]
            congr 1
            simp only [expand, List.append_nil]
            rw [show (y.hi + 1 - y.hi).toNat = 1 by omega]; rfl
          · rw [endFrom_snoc, List.length_append]; simp only [List.length_singleton]; omega
  have := key N.reverse
  rwa [List.reverse_reverse] at this
theorem rowGo_Ch : ∀ {ys : List Slot} {p : Option ByteArray} {e : Int}, Ch p e ys → rowGo p e ys = endFrom e ys
  | [], _, _, _ => rfl
  | x :: r, p, e, h => by
    obtain ⟨h1, h2, h3, h4⟩ := h
    rw [rowGo, if_neg (by rw [h3]; simp; omega), endFrom]
    exact rowGo_Ch h4
/-- Who runs at a tick. -/
theorem find_expand : ∀ {ys : List Slot} {p : Option ByteArray} {e o : Int}, Ch p e ys → e ≤ o → o < endFrom e ys → (expand ys)[(o - e).toNat]? = some (findAt o ys).1 ∧ 1 ≤ (findAt o ys).2
  | [], p, e, o, _, h1, h2 => by simp only [endFrom] at h2; omega
  | x :: r, p, e, o, h, h1, h2 => by
    obtain ⟨a, b, c, d⟩ := h
    simp only [endFrom] at h2
    simp only [expand, findAt]
    by_cases hx : o < x.hi
    · rw [if_pos hx, List.getElem?_append_left (by simp; omega)]
      refine ⟨?_, by simp only; omega⟩
      rw [List.getElem?_replicate, if_pos (by omega)]
    · rw [if_neg hx, List.getElem?_append_right (by simp; omega)]
      have ih := find_expand d (by omega) h2
      rw [List.length_replicate, show (o - e).toNat - (x.hi - x.lo).toNat = (o - x.hi).toNat by omega]
      exact ih
/-- One tick on, within a slot. -/
theorem find_next {o d : Int} {s : ByteArray} : ∀ {ys : List Slot}, findAt o ys = (s, d) → 1 < d → findAt (o + 1) ys = (s, d - 1)
  | [], h, h1 => by simp only [findAt, Prod.mk.injEq] at h; omega
  | x :: r, h, h1 => by
    simp only [findAt] at h ⊢
    by_cases hx : o < x.hi
    · rw [if_pos hx] at h
      simp only [Prod.mk.injEq] at h
      rw [if_pos (by omega)]
      simp only [Prod.mk.injEq]
      exact ⟨h.1, by omega⟩
    · rw [if_neg hx] at h
      rw [if_neg (by omega)]
      exact find_next h h1
/-- How many ticks bear a name. -/
def cntN (s : ByteArray) (l : List ByteArray) : Nat := l.countP (fun x => x.toList == s.toList)
theorem bud_expand (s : ByteArray) : ∀ {ys : List Slot} {p : Option ByteArray} {e : Int}, Ch p e ys → 0 ≤ e → endFrom e ys ≤ 65536 → budL s ys = (cntN s (expand ys) : Int)
  | [], _, _, _, _, _ => rfl
  | x :: r, p, e, h, h0, h1 => by
    obtain ⟨a, b, c, d⟩ := h
    have hle := endFrom_le d
    simp only [endFrom] at h1
    have ih := bud_expand s d (by omega) h1
    simp only [budL, expand, cntN, List.countP_append, List.countP_replicate] at ih ⊢
    rw [ih]
    unfold budGo
    by_cases e : x.subj.toList = s.toList
    · rw [if_pos ⟨e, by omega, by omega, by omega⟩, if_pos (by simp [e])]
      omega
    · rw [if_neg (fun h => e h.1), if_neg (by simp [e])]
      simp
theorem flat_names {M : Nat} {xs : List Need} {needs : Bool} (hp : ∀ x, x ∈ xs → 1 ≤ x.budget) (hs : needs = false → sumW M false xs ≤ M) : flatRow M xs needs = rowTk ((ticksL M xs needs).map (nameOf xs)) := by
  rw [← rowT_ticks hp hs, rowT_names]; rfl
end Go.Proofs.Ytenfikfgliljmaa.LA
