/- The book's lists written full with marks; plain. -/
import Derived.Test.YtenfikfgliljmaaMX
namespace Go.Proofs.Ytenfikfgliljmaa.LA
open Go.RowKit
/-- The cells of one mark. -/
def MkC (cur : Array Value) (k : Nat) (j : Nat) : Prop := cur[j * 3]? = some (.string ⟨#[]⟩) ∧ cur[j * 3 + 1]? = some (.int .i64 (-1 - (k : Int))) ∧ cur[j * 3 + 2]? = some (.int .i64 0)
/-- The lists up to i are full of their marks, of the list i the first m places. -/
def MkAt (w : World) (E : List Ent) (i m : Nat) : Prop :=
  ∀ k (hk : k < E.length), E[k].v = .slice none 0 0 ∨ ∃ g n cap cur, E[k].v = .slice (some ⟨g, 0, none⟩) n cap ∧ Row w g 33 cur ∧ cur.size = cap * 3 ∧ cap ≤ maxLen ∧ ∀ j, j < cap → (k < i ∨ (k = i ∧ j < m)) → MkC cur k j
section
variable {w w' : World} {p : Nat} {lv wv : Value} {h : Int} {E : List Ent} {F S : Nat → Prop} {i m : Nat}
theorem MkAt.start (k : BkAt w p lv wv h E F) : MkAt w E 0 0 := by
  intro j hj
  rcases (k.ent E[j] (List.getElem_mem hj)).1 with ⟨e, _⟩ | ⟨g, cap, cur, e, _, hr, _⟩
  · exact .inl e
  · exact .inr ⟨g, _, cap, cur, e, hr.1, hr.2.2.2.1, hr.2.2.1, fun q hq c => by omega⟩
theorem MkAt.upd (k : MkAt w E i m) (hu : Upd S w w') (hS : ∀ e, e ∈ E → ∀ b, e.v.ownBlock = some b → ¬ S b) : MkAt w' E i m := by
  intro j hj
  rcases k j hj with e | ⟨g, n, cap, cur, e, hr, h2⟩
  · exact .inl e
  · exact .inr ⟨g, n, cap, cur, e, hu.row hr (hS _ (List.getElem_mem hj) g (by rw [e]; rfl)), h2⟩
theorem MkAt.next (k : MkAt w E i m) (hi : i < E.length) (hm : ∀ g n cap, E[i].v = .slice (some ⟨g, 0, none⟩) n cap → cap ≤ m) : MkAt w E (i + 1) 0 := by
  intro j hj
  rcases k j hj with e | ⟨g, n, cap, cur, e, hr, h1, h2, h3⟩
  · exact .inl e
  · refine .inr ⟨g, n, cap, cur, e, hr, h1, h2, fun q hq c => h3 q hq ?_⟩
    by_cases hji : j = i
    · subst hji; have := hm g n cap e; exact .inr ⟨rfl, by omega⟩
    · exact .inl (by omega)
/-- One mark more. -/
theorem MkAt.set (k : MkAt w E i m) (hd : E.Pairwise (fun e f => ∀ b, e.v.ownBlock = some b → f.v.ownBlock ≠ some b)) (hi : i < E.length) {g n cap : Nat} (hv : E[i].v = .slice (some ⟨g, 0, none⟩) n cap) (hm : m < cap) :
    MkAt (((w.setCell ⟨g, m * 3, none⟩ (.string ⟨#[]⟩)).setCell ⟨g, m * 3 + 1, none⟩ (.int .i64 (-1 - (i : Int)))).setCell ⟨g, m * 3 + 2, none⟩ (.int .i64 0)) E i (m + 1) := by
  intro j hj
  by_cases hji : j = i
  · subst hji
    rcases k j hj with e | ⟨g', n', cap', cur, e, hr, h1, h2, h3⟩
    · rw [e] at hv; cases hv
    · rw [hv] at e
      obtain ⟨rfl, rfl, rfl⟩ : g = g' ∧ n = n' ∧ cap = cap' := by simpa using e
      refine .inr ⟨g, n, cap, _, hv, ((hr.setCell _ _).setCell _ _).setCell _ _, by simpa using h1, h2, fun q hq c => ?_⟩
      unfold MkC
      simp only [Array.getElem?_setIfInBounds, Array.size_setIfInBounds]
      by_cases hqm : q = m
      · subst hqm
        refine ⟨?_, ?_, ?_⟩
        · rw [if_neg (by omega), if_neg (by omega), if_pos rfl, if_pos (by omega)]
        · rw [if_neg (by omega), if_pos rfl, if_pos (by omega)]
        · rw [if_pos rfl, if_pos (by omega)]
      · obtain ⟨c1, c2, c3⟩ := h3 q hq (.inr ⟨rfl, by omega⟩)
        refine ⟨?_, ?_, ?_⟩
        · rw [if_neg (by omega), if_neg (by omega), if_neg (by omega)]; exact c1
        · rw [if_neg (by omega), if_neg (by omega), if_neg (by omega)]; exact c2
        · rw [if_neg (by omega), if_neg (by omega), if_neg (by omega)]; exact c3
  · rcases k j hj with e | ⟨g', n', cap', cur, e, hr, h1, h2, h3⟩
    · exact .inl e
    · have hne : g ≠ g' := by
        intro q
        subst q
        rw [List.pairwise_iff_getElem] at hd
        by_cases c : j < i
        · exact hd j i hj hi c g (by rw [e]; rfl) (by rw [hv]; rfl)
        · exact hd i j hi hj (by omega) g (by rw [hv]; rfl) (by rw [e]; rfl)
      refine .inr ⟨g', n', cap', cur, e, ((hr.setCell_ne (a := ⟨g, m * 3, none⟩) hne _).setCell_ne (a := ⟨g, m * 3 + 1, none⟩) hne _).setCell_ne (a := ⟨g, m * 3 + 2, none⟩) hne _, h1, h2, fun q hq c => h3 q hq (by omega)⟩
theorem MkAt.cells (k : MkAt w E i m) {j : Nat} (hj : j < E.length) {g n cap : Nat} (hv : E[j].v = .slice (some ⟨g, 0, none⟩) n cap) :
    ∃ cur, Row w g 33 cur ∧ cur.size = cap * 3 ∧ cap ≤ maxLen ∧ ∀ q, q < cap → (j < i ∨ (j = i ∧ q < m)) → MkC cur j q := by
  rcases k j hj with e | ⟨g', n', cap', cur, e, h2⟩
  · rw [e] at hv; cases hv
  · rw [hv] at e
    obtain ⟨rfl, rfl, rfl⟩ : g = g' ∧ n = n' ∧ cap = cap' := by simpa using e
    exact ⟨cur, h2⟩
theorem setm_upd (w : World) (g m : Nat) (a b c : Value) : Upd (· = g) w (((w.setCell ⟨g, m * 3, none⟩ a).setCell ⟨g, m * 3 + 1, none⟩ b).setCell ⟨g, m * 3 + 2, none⟩ c) :=
  ((Upd.setCell w ⟨g, m * 3, none⟩ a (S := (· = g)) rfl).trans (Upd.setCell _ ⟨g, m * 3 + 1, none⟩ b (S := (· = g)) rfl) (fun _ e => .inl e)).trans (Upd.setCell _ ⟨g, m * 3 + 2, none⟩ c (S := (· = g)) rfl) (fun _ e => .inl e)
end
end Go.Proofs.Ytenfikfgliljmaa.LA
