/- Memory of the laws without the document's own answer: counts, numbers handed in, a lane stored whole; plain. -/
import Derived.Test.YtenfikfgliljmaaMB
namespace Go.Proofs.Ytenfikfgliljmaa.LA
open Go.RowKit
/-- A row of so many counts. -/
def UAt (w : World) (g n : Nat) (f : Nat → Nat) : Prop := ∃ cur, Row w g 26 cur ∧ cur.size = n ∧ ∀ i, i < n → cur[i]? = some (.int .u64 (f i : Nat))
section
variable {w w' : World} {g n : Nat} {f f' : Nat → Nat}
theorem UAt.cell (h : UAt w g n f) (i : Nat) (hi : i < n) : w.cell? ⟨g, i, none⟩ = some (.int .u64 (f i : Nat)) := by
  obtain ⟨cur, hr, _, hc⟩ := h; exact hr.cell (hc i hi)
theorem UAt.frozen (h : UAt w g n f) (i : Nat) : w.frozen? ⟨g, i, none⟩ = false := by
  obtain ⟨cur, hr, _, hc⟩ := h; exact hr.frozen i
theorem UAt.lt (h : UAt w g n f) : g < w.heap.size := by
  obtain ⟨cur, hr, _, hc⟩ := h; exact hr.lt
theorem UAt.upd {S : Nat → Prop} (h : UAt w g n f) (hu : Upd S w w') (hS : ¬ S g) : UAt w' g n f := by
  obtain ⟨cur, hr, h2⟩ := h; exact ⟨cur, hu.row hr hS, h2⟩
theorem UAt.below {B : Nat} (h : UAt w g n f) (hu : Below B w w') (hS : g < B) : UAt w' g n f := by
  obtain ⟨cur, hr, h2⟩ := h; exact ⟨cur, (hu.block _ hS).trans hr, h2⟩
theorem UAt.set (h : UAt w g n f) (i : Nat) (v : Int) (hi : i < n) (hv : v = (f' i : Nat)) (hf : ∀ j, j < n → j ≠ i → f' j = f j) : UAt (w.setCell ⟨g, i, none⟩ (.int .u64 v)) g n f' := by
  obtain ⟨cur, hr, hs, hc⟩ := h
  refine ⟨_, hr.setCell i _, by simpa using hs, fun j hj => ?_⟩
  rw [Array.getElem?_setIfInBounds]
  by_cases e : i = j
  · subst e; rw [if_pos rfl, if_pos (by omega), hv]
  · rw [if_neg e, hf j hj (fun h => e h.symm)]; exact hc j hj
theorem UAt.cong (h : UAt w g n f) (hf : ∀ j, j < n → f' j = f j) : UAt w g n f' := by
  obtain ⟨cur, hr, hs, hc⟩ := h
  exact ⟨cur, hr, hs, fun i hi => by rw [hf i hi]; exact hc i hi⟩
theorem UAt.make {B : Nat} (h : w.ownsRow B 26 1 (.slice (some ⟨g, 0, none⟩) n n) n (madeCells (Value.int .u64 0).cells (n * 1)).toList) : B ≤ g ∧ UAt w g n (fun _ => 0) := by
  have hc : ∀ i, i < n → w.cell? ⟨g, i, none⟩ = some (.int .u64 0) := fun i hi => by
    have := World.ownsRow.cellAt h i (by omega)
    rw [this]
    simp [madeCells, Value.cells, hi, Nat.mod_one]
  rcases h.2 with ⟨h1, _⟩ | ⟨g', cap', cur, hv, hb, hg, h2, h3, h4, h5⟩
  · cases h1
  · obtain ⟨rfl, rfl⟩ : g' = g ∧ cap' = n := by simpa using hv.symm
    refine ⟨hb, cur, hg, by omega, fun i hi => ?_⟩
    have := hc i hi
    rw [cell_of_row w g' i cur 26 (0, 0) hg] at this
    simpa using this
end
/-- A slice of numbers reads so, from its address on. -/
def IntsAt (w : World) (A : Option Addr) (ws : List Int) : Prop :=
  ∀ i (h : i < ws.length), ∃ b off, A = some ⟨b, off, none⟩ ∧ w.cell? ⟨b, off + i, none⟩ = some (.int .i64 ws[i])
theorem IntsAt.below {w w' : World} {A : Option Addr} {ws : List Int} (h : IntsAt w A ws) (hb : Below w.heap.size w w') : IntsAt w' A ws := by
  intro i hi
  obtain ⟨b, off, rfl, h0⟩ := h i hi
  exact ⟨b, off, rfl, (hb.cell (World.block_lt_of_cell? w _ h0)).trans h0⟩
/-- The lane's box, another lane stored into it. -/
abbrev boxW (w : World) (N : Nat) (x0 x1 x2 x3 : Value) : World := (((w.setCell ⟨N, 0, none⟩ x0).setCell ⟨N, 1, none⟩ x1).setCell ⟨N, 2, none⟩ x2).setCell ⟨N, 3, none⟩ x3
theorem boxFacts {w : World} {N : Nat} {a0 a1 a2 a3 : Value} (h : Row w N 31 #[a0, a1, a2, a3]) (x0 x1 x2 x3 : Value) :
    (w.cell? ⟨N, 0, none⟩ = some a0 ∧ w.cell? ⟨N, 1, none⟩ = some a1 ∧ w.cell? ⟨N, 2, none⟩ = some a2 ∧ w.cell? ⟨N, 3, none⟩ = some a3) ∧
    (w.frozen? ⟨N, 0, none⟩ = false ∧ w.frozen? ⟨N, 1, none⟩ = false ∧ w.frozen? ⟨N, 2, none⟩ = false ∧ w.frozen? ⟨N, 3, none⟩ = false) ∧
    ((w.setCell ⟨N, 0, none⟩ x0).cell? ⟨N, 1, none⟩ = some a1 ∧ (w.setCell ⟨N, 0, none⟩ x0).frozen? ⟨N, 1, none⟩ = false) ∧
    (((w.setCell ⟨N, 0, none⟩ x0).setCell ⟨N, 1, none⟩ x1).cell? ⟨N, 2, none⟩ = some a2 ∧ ((w.setCell ⟨N, 0, none⟩ x0).setCell ⟨N, 1, none⟩ x1).frozen? ⟨N, 2, none⟩ = false) ∧
    ((((w.setCell ⟨N, 0, none⟩ x0).setCell ⟨N, 1, none⟩ x1).setCell ⟨N, 2, none⟩ x2).cell? ⟨N, 3, none⟩ = some a3 ∧ (((w.setCell ⟨N, 0, none⟩ x0).setCell ⟨N, 1, none⟩ x1).setCell ⟨N, 2, none⟩ x2).frozen? ⟨N, 3, none⟩ = false) ∧
    Row (boxW w N x0 x1 x2 x3) N 31 #[x0, x1, x2, x3] ∧ Upd (· = N) w (boxW w N x0 x1 x2 x3) := by
  have R1 := h.setCell 0 x0
  have R2 := R1.setCell 1 x1
  have R3 := R2.setCell 2 x2
  have R4 := R3.setCell 3 x3
  refine ⟨⟨h.cell rfl, h.cell rfl, h.cell rfl, h.cell rfl⟩, ⟨h.frozen 0, h.frozen 1, h.frozen 2, h.frozen 3⟩, ⟨R1.cell (by simp), R1.frozen 1⟩, ⟨R2.cell (by simp), R2.frozen 2⟩, ⟨R3.cell (by simp), R3.frozen 3⟩, by simpa using R4, ?_⟩
  exact (((Upd.setCell w ⟨N, 0, none⟩ x0 (S := (· = N)) rfl).trans (Upd.setCell _ ⟨N, 1, none⟩ x1 (S := (· = N)) rfl) (fun _ e => .inl e)).trans (Upd.setCell _ ⟨N, 2, none⟩ x2 (S := (· = N)) rfl) (fun _ e => .inl e)).trans (Upd.setCell _ ⟨N, 3, none⟩ x3 (S := (· = N)) rfl) (fun _ e => .inl e)
/-- Nothing of what is read lies in a block that is turned. -/
theorem RunsAt.upd {w w' : World} {A : Option Addr} {xs : List Need} {S : Nat → Prop} (h : RunsAt w A xs) (hu : Upd S w w') (hS : ∀ b off, A = some ⟨b, off, none⟩ → ¬ S b) : RunsAt w' A xs := by
  intro i hi
  obtain ⟨b, off, rfl, h0, h1, h2, h3⟩ := h i hi
  have hs := hS b off rfl
  exact ⟨b, off, rfl, hu.cell h0 hs, hu.cell h1 hs, hu.cell h2 hs, hu.cell h3 hs⟩
theorem IntsAt.upd {w w' : World} {A : Option Addr} {ws : List Int} {S : Nat → Prop} (h : IntsAt w A ws) (hu : Upd S w w') (hS : ∀ b off, A = some ⟨b, off, none⟩ → ¬ S b) : IntsAt w' A ws := by
  intro i hi
  obtain ⟨b, off, rfl, h0⟩ := h i hi
  exact ⟨b, off, rfl, hu.cell h0 (hS b off rfl)⟩
end Go.Proofs.Ytenfikfgliljmaa.LA
