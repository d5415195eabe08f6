/- Slots that are read: a slot row's length, who has how much of it, who runs at a tick; plain. -/
import Derived.Test.YtenfikfgliljmaaE
namespace Go.Proofs.Ytenfikfgliljmaa.LA
open Go.RowKit

/-- A slice of slots reads so, from its address on. -/
def SlotsAt (w : World) (A : Option Addr) (ys : List Slot) : Prop :=
  ∀ i (h : i < ys.length), ∃ b off, A = some ⟨b, off, none⟩ ∧ w.cell? ⟨b, off + i * 3, none⟩ = some (.string ys[i].subj) ∧ w.cell? ⟨b, off + i * 3 + 1, none⟩ = some (.int .i64 ys[i].lo) ∧
    w.cell? ⟨b, off + i * 3 + 2, none⟩ = some (.int .i64 ys[i].hi)

theorem SlotsAt.below {w w' : World} {A : Option Addr} {ys : List Slot} (h : SlotsAt w A ys) (hb : Below w.heap.size w w') : SlotsAt w' A ys := by
  intro i hi
  obtain ⟨b, off, rfl, h0, h1, h2⟩ := h i hi
  exact ⟨b, off, rfl, (hb.cell (World.block_lt_of_cell? w _ h0)).trans h0, (hb.cell (World.block_lt_of_cell? w _ h1)).trans h1, (hb.cell (World.block_lt_of_cell? w _ h2)).trans h2⟩

theorem SRow.at {w : World} {g : Nat} {ys : List Slot} {cap : Nat} {cur : Array Value} (h : SRow w g ys cap cur) : SlotsAt w (some ⟨g, 0, none⟩) ys := by
  intro i hi
  obtain ⟨c0, c1, c2⟩ := h.2.2.2.2.2 i hi
  refine ⟨g, 0, rfl, ?_, ?_, ?_⟩
  · rw [Nat.zero_add]; exact h.1.cell c0
  · rw [Nat.zero_add]; exact h.1.cell c1
  · rw [Nat.zero_add]; exact h.1.cell c2

/-- The numbers of slots are of their kind. -/
def SlotsOk (ys : List Slot) : Prop := ∀ x, x ∈ ys → -9223372036854775808 ≤ x.lo ∧ x.lo ≤ 9223372036854775807 ∧ -9223372036854775808 ≤ x.hi ∧ x.hi ≤ 9223372036854775807

/-- Is the subject the one ahead? -/
def sameB (p : Option ByteArray) (s : ByteArray) : Bool := match p with
  | none => false
  | some q => s.toList == q.toList

/-- How many ticks a slot row has; 0: it is none. -/
def rowGo : Option ByteArray → Int → List Slot → Int
  | _, e, [] => e
  | p, e, x :: r => if x.lo ≠ e ∨ x.hi ≤ x.lo ∨ sameB p x.subj = true then 0 else rowGo (some x.subj) x.hi r
def rowLen (ys : List Slot) : Int := rowGo none 0 ys

/-- The subject ahead of place k. -/
def ahead (ys : List Slot) (k : Nat) : Option ByteArray := if k = 0 then none else ys[k - 1]?.map (·.subj)

/-- How many ticks a subject has. -/
def budGo (s : ByteArray) (x : Slot) : Int := if x.subj.toList = s.toList ∧ 0 ≤ x.lo ∧ x.lo < x.hi ∧ x.hi ≤ 65536 then x.hi - x.lo else 0
def budL (s : ByteArray) : List Slot → Int
  | [] => 0
  | x :: r => budGo s x + budL s r

theorem budGo_bd (s : ByteArray) (x : Slot) : 0 ≤ budGo s x ∧ budGo s x ≤ 65536 := by unfold budGo; split <;> omega
theorem budL_bd (s : ByteArray) : ∀ ys, 0 ≤ budL s ys ∧ budL s ys ≤ 65536 * ys.length
  | [] => by simp [budL]
  | x :: r => by have := budGo_bd s x; have := budL_bd s r; simp only [budL, List.length_cons]; omega
theorem budL_append (s : ByteArray) : ∀ a b, budL s (a ++ b) = budL s a + budL s b
  | [], b => by simp [budL]
  | x :: r, b => by simp only [List.cons_append, budL, budL_append s r b]; omega

/-- The slot of a tick of a row. -/
def findAt (o : Int) : List Slot → ByteArray × Int
  | [] => (⟨#[]⟩, 0)
  | x :: r => if o < x.hi then (x.subj, x.hi - o) else findAt o r
def schedL (ys : List Slot) (o : Int) : ByteArray × Int := if rowLen ys = 0 then (⟨#[]⟩, 0) else findAt (max o 0 % rowLen ys) ys

theorem findAt_get {o : Int} : ∀ {ys : List Slot} {k : Nat} (h : k < ys.length), (∀ j (hj : j < k), ys[j].hi ≤ o) → o < ys[k].hi → findAt o ys = (ys[k].subj, ys[k].hi - o)
  | x :: r, 0, _, _, h2 => by simp only [List.getElem_cons_zero] at h2 ⊢; simp [findAt, h2]
  | x :: r, k + 1, h, h1, h2 => by
    have h3 := h1 0 (by omega)
    simp only [List.getElem_cons_zero] at h3
    rw [findAt, if_neg (by omega)]
    simp only [List.getElem_cons_succ] at h2 ⊢
    exact findAt_get (ys := r) (k := k) (by simpa using h) (fun j hj => by have := h1 (j + 1) (by omega); simpa using this) h2

/-- What a row that is right is like. -/
theorem rowGo_right : ∀ {ys : List Slot} {p : Option ByteArray} {e : Int}, 0 ≤ e → rowGo p e ys ≠ 0 → e ≤ rowGo p e ys ∧ (∀ k (h : k < ys.length), e < ys[k].hi ∧ ys[k].hi ≤ rowGo p e ys) ∧ (∀ j k (hj : j < k) (hk : k < ys.length), ys[j].hi < ys[k].hi) ∧
    (0 < ys.length → ∃ h : ys.length - 1 < ys.length, ys[ys.length - 1].hi = rowGo p e ys)
  | [], p, e, h0, h => ⟨by simp [rowGo], fun k h => absurd h (Nat.not_lt_zero _), fun j k _ hk => absurd hk (Nat.not_lt_zero _), fun h => absurd h (Nat.not_lt_zero _)⟩
  | x :: r, p, e, h0, h => by
    simp only [rowGo] at h ⊢
    by_cases hc : x.lo ≠ e ∨ x.hi ≤ x.lo ∨ sameB p x.subj = true
    · rw [if_pos hc] at h; exact absurd rfl h
    · rw [if_neg hc] at h ⊢
      obtain ⟨a, b, c, d⟩ := rowGo_right (ys := r) (p := some x.subj) (e := x.hi) (by omega) h
      refine ⟨by omega, fun k hk => ?_, fun j k hj hk => ?_, fun _ => ⟨by simp, ?_⟩⟩
      · cases k with
        | zero => simp only [List.getElem_cons_zero]; omega
        | succ k => have := b k (by simpa using hk); simp only [List.getElem_cons_succ]; omega
      · cases k with
        | zero => omega
        | succ k =>
          cases j with
          | zero => have := b k (by simpa using hk); simp only [List.getElem_cons_succ, List.getElem_cons_zero]; omega
          | succ j => have := c j k (by omega) (by simpa using hk); simpa using this
      · cases r with
        | nil => simp [rowGo]
        | cons y r =>
          obtain ⟨h1, h2⟩ := d (by simp)
          simp only [List.length_cons, Nat.add_sub_cancel] at h2 ⊢
          rw [List.getElem_cons_succ]
          exact h2
end Go.Proofs.Ytenfikfgliljmaa.LA
