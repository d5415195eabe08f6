import Derived.Test.YtenfikfgliljmaaAB
import Derived.Test.YtenfikfgliljmaaMA
namespace Go.Proofs.Ytenfikfgliljmaa
open Go.RowKit
namespace LA
theorem und74 : Try.prog.underlying 74 = some (.slice 33) := by kernel_rfl
theorem info33 : (Try.prog.info? 33).map (fun i => (i.zero, i.size, i.bytes)) = some (some (.agg #[.string ⟨#[]⟩, .int .i64 0, .int .i64 0]), 3, 32) := by kernel_rfl

theorem getElem_of_last {α : Type} {ys : List α} {y : α} (h : ys.getLast? = some y) : ∃ zs, ys = zs ++ [y] := ⟨ys.dropLast, by
  have hne : ys ≠ [] := by intro e; rw [e] at h; simp at h
  rw [List.getLast?_eq_some_getLast hne] at h
  cases h
  exact (List.dropLast_concat_getLast hne).symm⟩

set_option maxHeartbeats 400000 in
set_option maxRecDepth 100000 in
theorem end_none (w : World) : Calls Try.prog 39 #[.slice none 0 0] w fun e w' => e = .returned (.int .i64 0) ∧ w = w' := by
  go_enter Try.func39, Try.ntmps39
  go_wp2
  go_ret
  exact ⟨rfl, rfl⟩

set_option maxHeartbeats 400000 in
set_option maxRecDepth 100000 in
theorem end_some (w : World) (g n cap : Nat) (h : Int) (hn : n ≤ 1099511627776) (hc : w.cell? ⟨g, n * 3 + 2, none⟩ = some (.int .i64 h)) :
    Calls Try.prog 39 #[.slice (some ⟨g, 0, none⟩) (n + 1) cap] w fun e w' => e = .returned (.int .i64 h) ∧ w = w' := by
  have h0 : (((n : Int) + 1) == 0) = false := by rw [beq_eq_false_iff_ne]; omega
  go_enter Try.func39, Try.ntmps39
  go_wp2
  go_ret
  exact ⟨rfl, rfl⟩

/-- What row.run leaves. -/
def RunPost (p : Nat) (o : Option Nat) (ys : List Slot) (w : World) (e : Ending) (w' : World) : Prop :=
  e = .returned (.tuple #[]) ∧ ∃ o', WAt w' p o' ys ∧ Upd (fun b => b = p ∨ some b = o) w w' ∧ (o' = o ∨ ∃ g, o' = some g ∧ w.heap.size ≤ g)

set_option maxHeartbeats 800000 in
set_option maxRecDepth 100000 in
theorem run_none (p : Nat) (s : ByteArray) (t : Int) (w : World) (HW : WAt w p none []) (ht : 0 ≤ t) (ht2 : t ≤ 1099511627776) :
    Calls Try.prog 38 #[.pointer (some ⟨p, 0, none⟩), .string s, .int .i64 t] w (RunPost p none [⟨s, 0, t⟩] w) := by
  have hcell : w.cell? ⟨p, 0, none⟩ = some (.slice none 0 0) := HW.2.cell rfl
  have H0 := hide HW
  have hpw : p < w.heap.size := HW.2.lt
  obtain ⟨i0, hi, hz0, hz1, hz2⟩ := info_parts info33
  have Hi := hide hi; have Hz0 := hide hz0; have Hz1 := hide hz1; have Hz2 := hide hz2
  clear HW hi hz0 hz1 hz2
  go_enter Try.func38, Try.ntmps38
  go_wp2_with fail
  refine (end_none _).mono ?_
  rintro e w1 ⟨rfl, rfl⟩
  go_wp2_with fail
  refine (end_none _).mono ?_
  rintro e w1 ⟨rfl, rfl⟩
  go_wp2_with (at_builtin; refine wpList_append_lies _ rfl (.tmp 35) (.tmp 44) 74 rfl 0 33 i0 (.agg #[.string ⟨#[]⟩, .int .i64 0, .int .i64 0]) 3 32 und74 Hi.out Hz0.out Hz1.out Hz2.out rfl (by decide) (.slice none 0 0) 0 [] rfl (World.ownsRow_nil _ _ _ _) ⟨w.heap.size, 0, none⟩ 1 1 [.string s, .int .i64 0, .int .i64 t] rfl rfl (by exact World.news_of_block (cs := #[.string s, .int .i64 0, .int .i64 t]) (heap_alloc_new w _)) (by simp [Value.oneCell']) (by decide) (by unfold maxLen; omega) (by omega) (Nat.zero_le _) (w.heap.size + 1) (by simp) ?_)
  intro g2 cap2 w2 hown2 hgrow2 hat2 hlt2
  have rp2 : Hid (Row w2 p 74 #[.slice none 0 0]) := hide ((hgrow2.block p (by simp; omega) (by simp [Value.ownBlock])).trans ((H0.out.2).alloc _))
  have fp2 := rp2.out.frozen 0
  have cp2 : w2.cell? ⟨p, 0, none⟩ = some (.slice none 0 0) := rp2.out.cell rfl
  have Ho2 := hide hown2; have Hg2 := hide hgrow2; have Ha2 := hide hat2
  clear hown2 hgrow2 hat2
  go_wp2_with fail
  go_end0
  have hU : Upd (fun b => b = p ∨ some b = none) w w2 := (Upd.alloc w _).trans (Upd.of_grownBy (S := fun _ => False) Hg2.out (by simp [Value.ownBlock])) (fun b h => h.elim)
  have hg2 : g2 = w.heap.size + 1 := by
    rcases Ha2.out with h | h
    · simp [Value.ownBlock] at h
    · exact h
  obtain ⟨cu2, r2⟩ := SRow_of_owns (ys := [⟨s, 0, t⟩]) Ho2.out rfl (by decide)
  refine ⟨rfl, some g2, ⟨by simp, cap2, cu2, rp2.out.setCell 0 _, ⟨r2.1.setCell_ne (by simp; omega) _, r2.2⟩, by omega⟩, hU.trans (Upd.setCell _ _ _ (S := (· = p)) rfl) (fun b h => .inl (.inl h)), .inr ⟨g2, rfl, by omega⟩⟩

set_option maxHeartbeats 800000 in
set_option maxRecDepth 100000 in
theorem run_same (p g : Nat) (zs : List Slot) (y : Slot) (s : ByteArray) (t : Int) (w : World) (HW : WAt w p (some g) (zs ++ [y])) (hl : zs.length ≤ 1099511627776) (ht : 0 ≤ t) (ht2 : t ≤ 1099511627776)
    (hy : 0 ≤ y.hi) (hy2 : y.hi ≤ 1099511627776) (hs : (y.subj.toList == s.toList) = true) :
    Calls Try.prog 38 #[.pointer (some ⟨p, 0, none⟩), .string s, .int .i64 t] w (RunPost p (some g) (zs ++ [⟨y.subj, y.lo, y.hi + t⟩]) w) := by
  have H0 := hide HW
  obtain ⟨h0, cap, cur, hr, hsr, hne⟩ := HW
  have hcell : w.cell? ⟨p, 0, none⟩ = some (.slice (some ⟨g, 0, none⟩) (zs.length + 1) cap) := by simpa using hr.cell (o := 0) rfl
  obtain ⟨c0, c1, c2⟩ := hsr.2.2.2.2.2 zs.length (by simp)
  rw [List.getElem_concat_length rfl] at c0 c1 c2
  replace c0 := hsr.1.cell c0
  replace c2 := hsr.1.cell c2
  have hfz := hsr.1.frozen (zs.length * 3 + 2)
  have Hr := hide hr; have Hs := hide hsr; have Hne := hide hne
  clear hr hsr hne c1 h0
  go_enter Try.func38, Try.ntmps38
  go_wp2_with fail
  go_end0
  refine ⟨rfl, some g, ⟨by simp, cap, cur.setIfInBounds (zs.length * 3 + 2) (.int .i64 (y.hi + t)), ?_, ?_, Hne.out⟩, Upd.setCell _ _ _ (.inr rfl), .inl rfl⟩
  · have := Hr.out.setCell_ne (a := ⟨g, zs.length * 3 + 2, none⟩) Hne.out (.int .i64 (y.hi + t))
    simpa using this
  · refine ⟨Hs.out.1.setCell _ _, ?_, Hs.out.2.2.1, by simp; exact Hs.out.2.2.2.1, SC_setHi Hs.out.2.2.2.2 _⟩
    have := Hs.out.2.1
    simpa using this

set_option maxHeartbeats 800000 in
set_option maxRecDepth 100000 in
theorem run_new (p g : Nat) (zs : List Slot) (y : Slot) (s : ByteArray) (t : Int) (w : World) (HW : WAt w p (some g) (zs ++ [y])) (hl : zs.length ≤ 1099511627776) (ht : 0 ≤ t) (ht2 : t ≤ 1099511627776)
    (hy : 0 ≤ y.hi) (hy2 : y.hi ≤ 1099511627776) (hs : (y.subj.toList == s.toList) = false) :
    Calls Try.prog 38 #[.pointer (some ⟨p, 0, none⟩), .string s, .int .i64 t] w (RunPost p (some g) ((zs ++ [y]) ++ [⟨s, y.hi, y.hi + t⟩]) w) := by
  generalize hL : (zs ++ [y]) ++ [(⟨s, y.hi, y.hi + t⟩ : Slot)] = L
  have HL := hide hL
  clear hL
  obtain ⟨h0, cap, cur, hr, hsr, hne⟩ := HW
  rw [List.length_append, List.length_singleton] at hr
  have hcell : w.cell? ⟨p, 0, none⟩ = some (.slice (some ⟨g, 0, none⟩) (zs.length + 1) cap) := hr.cell rfl
  obtain ⟨c0, c1, c2⟩ := hsr.2.2.2.2.2 zs.length (by simp)
  rw [List.getElem_concat_length rfl] at c0 c1 c2
  replace c0 := hsr.1.cell c0
  replace c2 := hsr.1.cell c2
  have hpw : p < w.heap.size := hr.lt
  have hgw : g < w.heap.size := hsr.1.lt
  have howns := hsr.owns
  rw [List.length_append, List.length_singleton] at howns
  have Hown := hide howns
  have Hr := hide hr; have Hs := hide hsr; have Hne := hide hne
  clear hr hsr hne c1 h0 howns
  obtain ⟨i0, hi, hz0, hz1, hz2⟩ := info_parts info33
  have Hi := hide hi; have Hz0 := hide hz0; have Hz1 := hide hz1; have Hz2 := hide hz2
  clear hi hz0 hz1 hz2
  have He := hide (end_some w g zs.length cap y.hi hl c2)
  go_enter Try.func38, Try.ntmps38
  go_wp2_with fail
  refine He.out.mono ?_
  rintro e w1 ⟨rfl, rfl⟩
  go_wp2_with fail
  refine He.out.mono ?_
  rintro e w1 ⟨rfl, rfl⟩
  go_wp2_with (at_builtin; refine wpList_append_lies _ rfl (.tmp 35) (.tmp 44) 74 rfl 0 33 i0 (.agg #[.string ⟨#[]⟩, .int .i64 0, .int .i64 0]) 3 32 und74 Hi.out Hz0.out Hz1.out Hz2.out rfl (by decide) (.slice (some ⟨g, 0, none⟩) (zs.length + 1) cap) (zs.length + 1) (sflat (zs ++ [y])) rfl (Hown.out.alloc _) ⟨w.heap.size, 0, none⟩ 1 1 [.string s, .int .i64 y.hi, .int .i64 (y.hi + t)] rfl rfl (by exact World.news_of_block (cs := #[.string s, .int .i64 y.hi, .int .i64 (y.hi + t)]) (heap_alloc_new w _)) (by simp [Value.oneCell']) (by decide) (by unfold maxLen; omega) (by omega) (Nat.zero_le _) (w.heap.size + 1) (by simp) ?_)
  intro g2 cap2 w2 hown2 hgrow2 hat2 hlt2
  have rp2 : Hid (Row w2 p 74 #[.slice (some ⟨g, 0, none⟩) (zs.length + 1) cap]) := hide ((hgrow2.block p (by simp; omega) (by simp [Value.ownBlock]; exact fun e => Hne.out e.symm)).trans ((Hr.out).alloc _))
  have fp2 := rp2.out.frozen 0
  have cp2 : w2.cell? ⟨p, 0, none⟩ = some (.slice (some ⟨g, 0, none⟩) (zs.length + 1) cap) := rp2.out.cell rfl
  have Ho2 := hide hown2; have Hg2 := hide hgrow2; have Ha2 := hide hat2
  clear hown2 hgrow2 hat2
  go_wp2_with fail
  go_end0
  have hU : Upd (fun b => b = p ∨ some b = some g) w w2 := (Upd.alloc w _).trans (Upd.of_grownBy (S := (· = g)) Hg2.out (fun b h => by simpa [Value.ownBlock] using h.symm)) (fun b h => .inl (.inr (by rw [h])))
  have hg2 : g2 = g ∨ g2 = w.heap.size + 1 := by
    rcases Ha2.out with h | h
    · left; simpa [Value.ownBlock] using h.symm
    · exact .inr h
  have hne2 : g2 ≠ p := by
    rcases hg2 with h | h
    · rw [h]; exact Hne.out
    · omega
  have ho := Ho2.out
  rw [show sflat (zs ++ [y]) ++ [.string s, .int .i64 y.hi, .int .i64 (y.hi + t)] = sflat L by rw [← HL.out, sflat_append _ [⟨s, _, _⟩]]; rfl] at ho
  have hLl : L.length = zs.length + 1 + 1 := by rw [← HL.out]; simp
  obtain ⟨cu2, r2⟩ := SRow_of_owns ho (by omega) (by omega)
  refine ⟨rfl, some g2, ⟨by omega, cap2, cu2, ?_, ⟨r2.1.setCell_ne (Ne.symm hne2) _, r2.2⟩, hne2⟩, hU.trans (Upd.setCell _ _ _ (S := (· = p)) rfl) (fun b h => .inl (.inl h)), ?_⟩
  · have := rp2.out.setCell 0 (.slice (some ⟨g2, 0, none⟩) (zs.length + 1 + 1) cap2)
    rw [hLl]
    exact this
  · rcases hg2 with h | h
    · exact .inl (by rw [h])
    · exact .inr ⟨g2, rfl, by omega⟩

/-- row.run: so many ticks of a subject more. -/
theorem run_any (p : Nat) (o : Option Nat) (ys : List Slot) (s : ByteArray) (t : Int) (w : World) (HW : WAt w p o ys) (hl : ys.length ≤ 1099511627776) (ht : 0 ≤ t) (ht2 : t ≤ 1099511627776)
    (hy : 0 ≤ endL ys) (hy2 : endL ys ≤ 1099511627776) : Calls Try.prog 38 #[.pointer (some ⟨p, 0, none⟩), .string s, .int .i64 t] w (RunPost p o (runL ys s t) w) := by
  cases o with
  | none =>
    obtain ⟨rfl, hr⟩ := HW
    exact run_none p s t w ⟨rfl, hr⟩ ht ht2
  | some g =>
    have hne : ys ≠ [] := by intro e; have := HW.1; rw [e] at this; simp at this
    obtain ⟨zs, hz⟩ := getElem_of_last (List.getLast?_eq_some_getLast hne)
    generalize ys.getLast hne = y at hz
    subst hz
    simp only [endL, List.getLast?_append, List.getLast?_singleton, Option.some_or, Option.getD_some] at hy hy2
    simp only [List.length_append, List.length_singleton] at hl
    cases hb : (y.subj.toList == s.toList) with
    | true =>
      have e : runL (zs ++ [y]) s t = zs ++ [⟨y.subj, y.lo, y.hi + t⟩] := by simp [runL, hb]
      rw [e]
      exact run_same p g zs y s t w HW (by omega) ht ht2 hy hy2 hb
    | false =>
      have e : runL (zs ++ [y]) s t = (zs ++ [y]) ++ [⟨s, y.hi, y.hi + t⟩] := by simp [runL, hb]
      rw [e]
      exact run_new p g zs y s t w HW (by omega) ht ht2 hy hy2 hb
end LA
end Go.Proofs.Ytenfikfgliljmaa
