/- Slices of one-cell elements that grow at their end and are cut at their head: memory of the book; plain. -/
import Derived.Test.YtenfikfgliljmaaMB
import Derived.Maps.AppendAt
import Derived.Deep.AppendLies
namespace Go.Proofs.Ytenfikfgliljmaa.LA
open Go.RowKit
/-- A slice of one-cell elements, anywhere in a row of its own. -/
def LSl (w : World) (t : Nat) (v : Value) (vs : List Value) : Prop :=
  (v = .slice none 0 0 ∧ vs = []) ∨ ∃ g k cap cur, v = .slice (some ⟨g, k, none⟩) vs.length cap ∧ Row w g t cur ∧ cur.size = k + cap ∧ vs.length ≤ cap ∧ k + cap ≤ maxLen ∧ ∀ i (h : i < vs.length), cur[k + i]? = some vs[i]
theorem LSl.upd {w w' : World} {t : Nat} {v : Value} {vs : List Value} {S : Nat → Prop} (h : LSl w t v vs) (hu : Upd S w w') (hS : ∀ b, v.ownBlock = some b → ¬ S b) : LSl w' t v vs := by
  rcases h with h | ⟨g, k, cap, cur, hv, hr, h2⟩
  · exact .inl h
  · exact .inr ⟨g, k, cap, cur, hv, hu.row hr (hS g (by rw [hv]; rfl)), h2⟩
theorem LSl.lt {w : World} {t : Nat} {v : Value} {vs : List Value} (h : LSl w t v vs) : ∀ b, v.ownBlock = some b → b < w.heap.size := by
  intro b hb
  rcases h with ⟨rfl, _⟩ | ⟨g, k, cap, cur, rfl, hr, _⟩
  · cases hb
  · obtain rfl : g = b := by simpa [Value.ownBlock] using hb
    exact hr.lt
theorem LSl.nil (w : World) (t : Nat) : LSl w t (.slice none 0 0) [] := .inl ⟨rfl, rfl⟩
/-- Cut at its head. -/
theorem LSl.tail {w : World} {t g k n cap : Nat} {x : Value} {vs : List Value} (h : LSl w t (.slice (some ⟨g, k, none⟩) (n + 1) cap) (x :: vs)) (hn : vs.length = n) : LSl w t (.slice (some ⟨g, k + 1, none⟩) n (cap - 1)) vs := by
  rcases h with ⟨h, _⟩ | ⟨g', k', cap', cur, hv, hr, h1, h2, h3, h4⟩
  · cases h
  · obtain ⟨⟨rfl, rfl⟩, _, rfl⟩ : (g = g' ∧ k = k') ∧ n = vs.length ∧ cap = cap' := by simpa using hv
    rw [List.length_cons] at h2
    refine .inr ⟨g, k + 1, cap - 1, cur, by rw [hn], hr, by omega, by omega, by omega, fun i hi => ?_⟩
    have := h4 (i + 1) (by simpa using hi)
    rw [show k + 1 + i = k + (i + 1) by omega, this]; simp
theorem LSl.cell {w : World} {t g k n cap : Nat} {vs : List Value} (h : LSl w t (.slice (some ⟨g, k, none⟩) n cap) vs) (i : Nat) (hi : i < vs.length) : w.cell? ⟨g, k + i, none⟩ = some vs[i] := by
  rcases h with ⟨h, _⟩ | ⟨g', k', cap', cur, hv, hr, h1, h2, h3, h4⟩
  · cases h
  · obtain ⟨⟨rfl, rfl⟩, _⟩ : (g = g' ∧ k = k') ∧ n = vs.length ∧ cap = cap' := by simpa using hv
    exact hr.cell (h4 i hi)
theorem LSl.cap {w : World} {t g k n cap : Nat} {vs : List Value} (h : LSl w t (.slice (some ⟨g, k, none⟩) n cap) vs) : vs.length ≤ cap := by
  rcases h with ⟨h, _⟩ | ⟨g', k', cap', cur, hv, hr, h1, h2, h3, h4⟩
  · cases h
  · obtain ⟨_, _, rfl⟩ : (g = g' ∧ k = k') ∧ n = vs.length ∧ cap = cap' := by simpa using hv
    exact h2
theorem LSl.form {w : World} {t : Nat} {v : Value} {vs : List Value} (h : LSl w t v vs) (hn : 0 < vs.length) : ∃ g k cap, v = .slice (some ⟨g, k, none⟩) vs.length cap := by
  rcases h with ⟨_, rfl⟩ | ⟨g, k, cap, cur, hv, _⟩
  · simp at hn
  · exact ⟨g, k, cap, hv⟩
theorem LSl.len {w : World} {t : Nat} {v : Value} {vs : List Value} (h : LSl w t v vs) : ∃ A cap, v = .slice A vs.length cap := by
  rcases h with ⟨rfl, rfl⟩ | ⟨g, k, cap, cur, hv, _⟩
  · exact ⟨none, 0, rfl⟩
  · exact ⟨_, cap, hv⟩

section
variable {P : Program} (w : World)
theorem run_append_one (t ty e : TypeId) (i : TypeInfo) (z : Value) (ht : P.underlying t = some (.slice e)) (hi : P.info? e = some i) (hz : i.zero = some z) (hsize : i.size = 1) (hby : i.bytes ≤ 1000) (hzs : z.cells.size = 1)
    (v : Value) (vs : List Value) (h : LSl w e v vs) (x : Value) (hx1 : x.oneCell' = true) (B c : Nat) (hB : w.cell? ⟨B, 0, none⟩ = some x) (hlen : vs.length ≤ 1000000) :
    ∃ v' w', (Builtin.append_ #[t, t] ty #[v, .slice (some ⟨B, 0, none⟩) 1 c]).run P w = .ok v' w' ∧ LSl w' e v' (vs ++ [x]) ∧ w.grownBy w' v.ownBlock ∧ ((v'.ownBlock = v.ownBlock ∧ v.ownBlock ≠ none) ∨ v'.ownBlock = some w.heap.size) := by
  have hnews : ∀ j u, [x][j]? = some u → w.cell? ((⟨B, 0, none⟩ : Addr).add j) = some u := fun j u hj => by
    cases j with
    | zero =>
      have e : (⟨B, 0, none⟩ : Addr).add 0 = ⟨B, 0, none⟩ := by unfold Addr.add; split <;> simp_all
      rw [e, hB]; simpa using hj
    | succ j => simp at hj
  have hl : [x].length = 1 * i.size := by rw [hsize]; rfl
  have grown : ∀ (old : Nat), ∀ (row : Option Nat),
      LSl (w.drew.alloc (.cells (vs.toArray ++ [x].toArray ++ Builtin.zeroCells z.cells (grownCap w (vs.length + 1) old e - (vs.length + 1))) e)) e
        (.slice (some ⟨w.heap.size, 0, none⟩) (vs.length + 1) (grownCap w (vs.length + 1) old e)) (vs ++ [x]) ∧
      w.grownBy (w.drew.alloc (.cells (vs.toArray ++ [x].toArray ++ Builtin.zeroCells z.cells (grownCap w (vs.length + 1) old e - (vs.length + 1))) e)) row := by
    intro old row
    have hge := grownCap_ge w (vs.length + 1) old e
    have hcm : grownCap w (vs.length + 1) old e ≤ maxLen := grownCap_le_maxLen w _ old e (by unfold maxLen; omega)
    refine ⟨.inr ⟨w.heap.size, 0, grownCap w (vs.length + 1) old e, _, by simp, heap_alloc_new w.drew _, ?_, by simpa using hge, by omega, ?_⟩, ⟨rfl, rfl, rfl, by simp, fun k hk _ => Below.heap_alloc w.drew _ k hk⟩⟩
    · simp only [Array.size_append, List.size_toArray, size_zeroCells, hzs, List.length_singleton]
      omega
    · intro j hj
      rw [List.length_append, List.length_singleton] at hj
      rw [Nat.zero_add]
      simp only [Array.getElem?_append, List.size_toArray, List.getElem?_toArray, Array.size_append, List.length_singleton]
      rw [if_pos hj]
      by_cases c : j < vs.length
      · rw [if_pos c, List.getElem_append_left c, List.getElem?_eq_getElem c]
      · obtain rfl : j = vs.length := by omega
        rw [if_neg c, List.getElem_concat_length rfl]; simp
  rcases h with ⟨rfl, rfl⟩ | ⟨g, k, cap, cur, rfl, hr, h1, h2, h3, h4⟩
  · have hr := run_append_nil (P := P) w t ty e i z ht hi hz ⟨B, 0, none⟩ 1 c [x] hl hnews (by omega) (by omega) (by omega)
    have hgr := grown 0 (Value.ownBlock (.slice none 0 0))
    simp only [List.length_nil, Nat.zero_add, List.nil_append, Array.empty_append] at hgr ⊢
    exact ⟨_, _, hr, hgr.1, hgr.2, .inr rfl⟩
  · by_cases hroom : vs.length + 1 ≤ cap
    · have hf := run_firstCells_some (P := P) w i.size 1 ⟨B, 0, none⟩ 1 c [x] hl hnews
      rw [hsize] at hf
      have hst := run_storeCells_at P g (k + vs.length) e [x] 0 cur w hr (by simp; omega) (by simpa using hx1)
      simp only [Nat.add_zero] at hst
      have hrun : (Builtin.append_ #[t, t] ty #[.slice (some ⟨g, k, none⟩) vs.length cap, .slice (some ⟨B, 0, none⟩) 1 c]).run P w = .ok (.slice (some ⟨g, k, none⟩) (vs.length + 1) cap) (w.setRow g (cur.toList.take (k + vs.length) ++ [x] ++ cur.toList.drop (k + vs.length + [x].length)).toArray) := by
        simp [Builtin.append_, run_underlying ht, sizeOf, typeInfo, hi, Builtin.lenOf, hroom, hf, Addr.add_lit, hst, hsize]
      have hsz : (cur.toList.take (k + vs.length) ++ [x] ++ cur.toList.drop (k + vs.length + [x].length)).toArray.size = k + cap := by
        simp only [List.size_toArray, List.length_append, List.length_take, List.length_drop, Array.length_toList, List.length_singleton]; omega
      refine ⟨_, _, hrun, .inr ⟨g, k, cap, _, by simp, setRow_heap w g cur _ e _ hr, hsz, by simpa using hroom, h3, ?_⟩, ⟨rfl, rfl, rfl, by simp, fun b _ hb => setRow_other w g b _ (fun e => hb (by simp [Value.ownBlock, e]))⟩, .inl ⟨rfl, by simp [Value.ownBlock]⟩⟩
      intro j hj
      rw [List.length_append, List.length_singleton] at hj
      rw [List.getElem?_toArray]
      by_cases c : j < vs.length
      · rw [List.append_assoc, List.getElem?_append_left (by simp; omega), List.getElem?_take, if_pos (by omega), List.getElem_append_left c]
        have := h4 j c
        simpa using this
      · obtain rfl : j = vs.length := by omega
        have hl2 : (cur.toList.take (k + vs.length)).length = k + vs.length := by
          have hcl : cur.toList.length = cur.size := Array.length_toList
          rw [List.length_take]; omega
        rw [List.append_assoc, List.getElem?_append_right (by omega), List.getElem_concat_length rfl, hl2, Nat.sub_self]
        rfl
    · have holds : ∀ j u, vs[j]? = some u → w.cell? ((⟨g, k, none⟩ : Addr).add j) = some u := fun j u hj => by
        have hjl := (List.getElem?_eq_some_iff.1 hj).1
        have e : (⟨g, k, none⟩ : Addr).add j = ⟨g, k + j, none⟩ := by unfold Addr.add; split <;> simp_all
        rw [e, hr.cell (h4 j hjl)]
        rw [List.getElem?_eq_getElem hjl] at hj; exact hj
      have hrr := run_append_grow (P := P) w t ty e i z ht hi hz ⟨g, k, none⟩ vs.length cap vs (by rw [hsize]; omega) holds ⟨B, 0, none⟩ 1 c [x] hl hnews (by omega) (by omega) (growslice_fits (by omega) (by
        have : (vs.length + 1) * i.bytes ≤ 1000001 * 1000 := Nat.mul_le_mul (by omega) hby
        omega))
      have hgr := grown cap (Value.ownBlock (.slice (some ⟨g, k, none⟩) vs.length cap))
      exact ⟨_, _, hrr, hgr.1, hgr.2, .inr rfl⟩

theorem wp_append_one {o : Oper} {a : Act} {K : Act → World → Prop} {Q : Exit → Act → World → Prop} (s y : Operand) (t : TypeId)
    (ho : o.op = .call { callee := .builtin .append, args := #[s, y], argTypes := #[t, t] })
    (e : TypeId) (i : TypeInfo) (z : Value) (ht : P.underlying t = some (.slice e)) (hi : P.info? e = some i) (hz : i.zero = some z) (hsize : i.size = 1) (hby : i.bytes ≤ 1000) (hzs : z.cells.size = 1)
    (v : Value) (vs : List Value) (hs : a.eval s = v) (h : LSl w e v vs) (x : Value) (hx1 : x.oneCell' = true) (B c : Nat) (hy : a.eval y = .slice (some ⟨B, 0, none⟩) 1 c) (hB : w.cell? ⟨B, 0, none⟩ = some x) (hlen : vs.length ≤ 1000000)
    (hK : ∀ v' w', LSl w' e v' (vs ++ [x]) → w.grownBy w' v.ownBlock → ((v'.ownBlock = v.ownBlock ∧ v.ownBlock ≠ none) ∨ v'.ownBlock = some w.heap.size) → K (a.put o.dst v') w') : o.wp P a w K Q := by
  obtain ⟨v', w', hr, h2, h3, h4⟩ := run_append_one (P := P) w t o.type e i z ht hi hz hsize hby hzs v vs h x hx1 B c hB hlen
  unfold Oper.wp execOp
  simp only [ho, resolve, invoke, builtin, Sem.run_bind, Sem.run_pure, Result.andThen_ok, List.map_toArray, List.map_cons, List.map_nil, hs, hy, hr]
  exact hK v' w' h2 h3 h4
theorem wpList_append_one {ops : Array Oper} {rest : List Oper} {o : Oper} {a : Act} {Q : Exit → Act → World → Prop} (hgd : o.guard = none) (s y : Operand) (t : TypeId)
    (ho : o.op = .call { callee := .builtin .append, args := #[s, y], argTypes := #[t, t] })
    (e : TypeId) (i : TypeInfo) (z : Value) (ht : P.underlying t = some (.slice e)) (hi : P.info? e = some i) (hz : i.zero = some z) (hsize : i.size = 1) (hby : i.bytes ≤ 1000) (hzs : z.cells.size = 1)
    (v : Value) (vs : List Value) (hs : a.eval s = v) (h : LSl w e v vs) (x : Value) (hx1 : x.oneCell' = true) (B c : Nat) (hy : a.eval y = .slice (some ⟨B, 0, none⟩) 1 c) (hB : w.cell? ⟨B, 0, none⟩ = some x) (hlen : vs.length ≤ 1000000)
    (hK : ∀ v' w', LSl w' e v' (vs ++ [x]) → w.grownBy w' v.ownBlock → ((v'.ownBlock = v.ownBlock ∧ v.ownBlock ≠ none) ∨ v'.ownBlock = some w.heap.size) → wpList P ops Q rest (a.put o.dst v') w') : wpList P ops Q (o :: rest) a w :=
  wpList_plain hgd fun _ hK' => wp_append_one w s y t ho e i z ht hi hz hsize hby hzs v vs hs h x hx1 B c hy hB hlen fun v' w' h2 h3 h4 => hK' _ _ (hK v' w' h2 h3 h4)
theorem step_append_one {ops : Array Oper} {o : Oper} {a : Act} {K : Act → World → Prop} {Q : Exit → Act → World → Prop} {E : Prop} (hgd : o.guard = none) (s y : Operand) (t : TypeId)
    (ho : o.op = .call { callee := .builtin .append, args := #[s, y], argTypes := #[t, t] })
    (e : TypeId) (i : TypeInfo) (z : Value) (ht : P.underlying t = some (.slice e)) (hi : P.info? e = some i) (hz : i.zero = some z) (hsize : i.size = 1) (hby : i.bytes ≤ 1000) (hzs : z.cells.size = 1)
    (v : Value) (vs : List Value) (hs : a.eval s = v) (h : LSl w e v vs) (x : Value) (hx1 : x.oneCell' = true) (B c : Nat) (hy : a.eval y = .slice (some ⟨B, 0, none⟩) 1 c) (hB : w.cell? ⟨B, 0, none⟩ = some x) (hlen : vs.length ≤ 1000000)
    (hK : ∀ v' w', LSl w' e v' (vs ++ [x]) → w.grownBy w' v.ownBlock → ((v'.ownBlock = v.ownBlock ∧ v.ownBlock ≠ none) ∨ v'.ownBlock = some w.heap.size) → K (a.put o.dst v') w') :
    if Region.wanted o (yielded ops a.tmps) = true then Oper.wp P o a w K Q else E := by
  have hw : Region.wanted o (yielded ops a.tmps) = true := by simp [Region.wanted, hgd]
  rw [if_pos hw]
  exact wp_append_one w s y t ho e i z ht hi hz hsize hby hzs v vs hs h x hx1 B c hy hB hlen hK
end
end Go.Proofs.Ytenfikfgliljmaa.LA
