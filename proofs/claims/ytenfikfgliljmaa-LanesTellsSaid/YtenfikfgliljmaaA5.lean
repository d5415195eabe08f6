import Derived.Test.YtenfikfgliljmaaA4
import Derived.Deep.AppendLies
namespace Go.Proofs.Ytenfikfgliljmaa
open Go.RowKit
namespace LA
theorem und93 : Try.prog.underlying 93 = some (.slice 96) := by kernel_rfl
theorem info96 : (Try.prog.info? 96).map (fun i => (i.zero, i.size, i.bytes)) = some (some (.agg #[.int .i64 0, .int .i64 0, .int .i64 0]), 3, 24) := by kernel_rfl

theorem assert96 (v : Value) (w : World) : (Instr.typeAssert (.iface 96 v) 20 96 false).run Try.prog w = .ok v w := by kernel_rfl

/-- What a push leaves. -/
def PushPost (p g : Nat) (js : List Job) (w : World) (e : Ending) (w' : World) : Prop :=
  e = .returned (.tuple #[]) ∧ ∃ g' cap' cur', JAt w' p g' js cap' cur' ∧ Upd (fun b => b = p ∨ b = g) w w' ∧ (g' = g ∨ w.heap.size ≤ g')

theorem app_flat {js : List Job} {x : Job} : flat js ++ [.int .i64 x.need, .int .i64 x.due, .int .i64 x.left] = flat (js ++ [x]) := by
  rw [flat_append]; rfl

/-- A grown row of jobs, read again. -/
theorem JC_of_owns {w : World} {base g n cap : Nat} {js : List Job} (h : w.ownsRow base 96 3 (.slice (some ⟨g, 0, none⟩) n cap) n (flat js)) (hn : n = js.length) (h0 : 0 < n) :
    ∃ cur, Row w g 96 cur ∧ js.length ≤ cap ∧ cap ≤ maxLen ∧ cur.size = cap * 3 ∧ JC cur js := by
  subst hn
  rcases h.2 with ⟨_, h1⟩ | ⟨g', cap', cur, hv, _, hg, h2, h3, h4, h5⟩
  · omega
  · obtain ⟨rfl, rfl⟩ : g' = g ∧ cap' = cap := by simpa using hv.symm
    exact ⟨cur, hg, h2, h3, h4, JC_of_take h5⟩

set_option maxHeartbeats 800000 in
set_option maxRecDepth 100000 in
theorem pushm_any (p g : Nat) (js : List Job) (cap : Nat) (cur : Array Value) (x : Job) (w : World) (hlen : js.length ≤ 1099511627776) (HJ : JAt w p g js cap cur) :
    Calls Try.prog 80 #[.pointer (some ⟨p, 0, none⟩), .iface 96 (.agg #[.int .i64 x.need, .int .i64 x.due, .int .i64 x.left])] w (PushPost p g (js ++ [x]) w) := by
  have hcell := HJ.cellp
  have H0 := hide HJ
  have hgw : g < w.heap.size := HJ.2.1.lt
  have hpw : p < w.heap.size := HJ.1.lt
  have Hne := hide HJ.2.2.1
  obtain ⟨i0, hi, hz0, hz1, hz2⟩ := info_parts info96
  have Hi := hide hi; have Hz0 := hide hz0; have Hz1 := hide hz1; have Hz2 := hide hz2
  clear HJ hi hz0 hz1 hz2
  have hta := assert96
  go_enter Try.func80, Try.ntmps80
  go_wp2_with fail
  go_region_law ((refine step_append_lies _ rfl (.tmp 7) (.tmp 10) 93 rfl 0 96 i0 (.agg #[.int .i64 0, .int .i64 0, .int .i64 0]) 3 24 und93 Hi.out Hz0.out Hz1.out Hz2.out rfl (by decide) (.slice (some ⟨g, 0, none⟩) js.length cap) js.length (flat js) (by simp [Act.eval, Act.put]) (by exact (H0.out.owns 0 (Nat.zero_le _)).alloc _) ⟨w.heap.size, 0, none⟩ 1 1 [.int .i64 x.need, .int .i64 x.due, .int .i64 x.left] (by simp [Act.eval, Act.put]) rfl (by exact World.news_of_block (cs := #[.int .i64 x.need, .int .i64 x.due, .int .i64 x.left]) (heap_alloc_new w _)) (by simp [Value.oneCell']) (by decide) (by unfold maxLen; omega) (by omega) (Nat.zero_le _) (w.heap.size + 1) (by simp) ?_); intro g2 cap2 w2 hown2 hgrow2 hat2 hlt2; have rp2 : Hid (Row w2 p 93 #[.slice (some ⟨g, 0, none⟩) js.length cap]) := hide ((hgrow2.block p (by simp; omega) (by simp [Value.ownBlock]; exact fun e => Hne.out e.symm)).trans ((H0.out.1).alloc _)); have fp2 := rp2.out.frozen 0; have cp2 : w2.cell? ⟨p, 0, none⟩ = some (.slice (some ⟨g, 0, none⟩) js.length cap) := rp2.out.cell rfl; have Ho2 := hide hown2; have Hg2 := hide hgrow2; have Ha2 := hide hat2; clear hown2 hgrow2 hat2)
  all_goals
    go_end0
    have hU : Upd (fun b => b = p ∨ b = g) w w2 := ((Upd.alloc w _).trans (Upd.drew (S := (· = g)) _) (fun b h => .inl (.inr h))).trans (Upd.of_grownBy (S := (· = g)) Hg2.out (fun b h => by simpa [Value.ownBlock] using h.symm)) (fun b h => .inl (.inr h))
    have ho := Ho2.out
    rw [app_flat] at ho
    obtain ⟨cu2, r2, l2, m2, s2, j2⟩ := JC_of_owns ho (by simp) (by omega)
    have hg2 : g2 = g ∨ w.heap.size ≤ g2 := by
      rcases Ha2.out with h | h
      · left; simpa [Value.ownBlock] using h.symm
      · right; omega
    have hne2 : g2 ≠ p := by
      rcases hg2 with h | h
      · rw [h]; exact Hne.out
      · omega
    refine ⟨rfl, g2, cap2, cu2, ⟨?_, r2.setCell_ne (Ne.symm hne2) _, hne2, l2, m2, s2, j2⟩, hU.trans (Upd.setCell _ _ _ (S := (· = p)) rfl) (fun b h => .inl (.inl h)), hg2⟩
    have := rp2.out.setCell 0 (.slice (some ⟨g2, 0, none⟩) (js.length + 1) cap2)
    rw [show (js ++ [x]).length = js.length + 1 by simp]
    exact this
end LA
end Go.Proofs.Ytenfikfgliljmaa
