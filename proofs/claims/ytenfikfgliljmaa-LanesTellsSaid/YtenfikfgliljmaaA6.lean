import Derived.Test.YtenfikfgliljmaaA5
namespace Go.Proofs.Ytenfikfgliljmaa
open Go.RowKit
namespace LA
theorem JC.init {cur : Array Value} {ys : List Job} {x : Job} (h : JC cur (ys ++ [x])) : JC cur ys := by
  refine ⟨by have := h.1; simp at this; omega, fun i hi => ?_⟩
  have := h.2 i (by simp; omega)
  rw [List.getElem_append_left hi] at this
  exact this

/-- What the method Pop leaves. -/
def PopmPost (p g : Nat) (ys : List Job) (x : Job) (cap : Nat) (w : World) (e : Ending) (w' : World) : Prop :=
  e = .returned (.iface 96 x.agg) ∧ ∃ cur', JAt w' p g ys cap cur' ∧ Upd (fun b => b = p) w w'

set_option maxHeartbeats 800000 in
set_option maxRecDepth 100000 in
theorem popm_any (p g : Nat) (ys : List Job) (x : Job) (cap : Nat) (cur : Array Value) (w : World) (hlen : ys.length ≤ 1099511627776) (HJ : JAt w p g (ys ++ [x]) cap cur) :
    Calls Try.prog 79 #[.pointer (some ⟨p, 0, none⟩)] w (PopmPost p g ys x cap w) := by
  have hcell := HJ.cellp
  rw [List.length_append, List.length_singleton] at hcell
  have hgw : g < w.heap.size := HJ.2.1.lt
  have hpw : p < w.heap.size := HJ.1.lt
  have hcap : ys.length + 1 ≤ cap := by have := HJ.2.2.2.1; simpa using this
  have hf : w.frozen? ⟨p, 0, none⟩ = false := HJ.1.frozen 0
  obtain ⟨ci0, ci1, ci2⟩ := HJ.2.2.2.2.2.2.2 ys.length (by simp)
  rw [List.getElem_concat_length rfl] at ci0 ci1 ci2
  replace ci0 := HJ.2.1.cell ci0
  replace ci1 := HJ.2.1.cell ci1
  replace ci2 := HJ.2.1.cell ci2
  have H0 := hide HJ
  clear HJ
  go_enter Try.func79, Try.ntmps79
  go_wp2
  go_ret
  have hr := H0.out.1.setCell 0 (.slice (some ⟨g, 0, none⟩) ys.length cap)
  refine ⟨rfl, cur, ⟨hr.alloc _, ((H0.out.2.1).setCell_ne (Ne.symm H0.out.2.2.1) _).alloc _, H0.out.2.2.1, by omega, H0.out.2.2.2.2.1, H0.out.2.2.2.2.2.1, H0.out.2.2.2.2.2.2.init⟩, ?_⟩
  exact (Upd.setCell _ _ _ (S := (· = p)) rfl).trans (Upd.alloc _ _) (fun _ h => .inl h)

set_option maxHeartbeats 800000 in
set_option maxRecDepth 100000 in
theorem len_any (A : Option Addr) (n cap : Nat) (w : World) : Calls Try.prog 55 #[.slice A n cap] w fun e w' => e = .returned (.int .i64 n) ∧ w = w' := by
  go_enter Try.func55, Try.ntmps55
  go_wp2
  go_ret
  exact ⟨rfl, rfl⟩

set_option maxHeartbeats 800000 in
set_option maxRecDepth 100000 in
theorem hpush_any (p g : Nat) (js : List Job) (cap : Nat) (cur : Array Value) (x : Job) (w : World) (hlen : js.length ≤ 1099511627775) (HJ : JAt w p g js cap cur) :
    Calls Try.prog 54 #[.iface 91 (.pointer (some ⟨p, 0, none⟩)), .iface 96 (.agg #[.int .i64 x.need, .int .i64 x.due, .int .i64 x.left])] w (PushPost p g (upL (js ++ [x]) js.length) w) := by
  have hmp := m_push p w
  have Hp := hide (pushm_any p g js cap cur x w (by omega) HJ)
  clear HJ
  go_enter Try.func54, Try.ntmps54
  go_wp2_with fail
  refine Hp.out.mono ?_
  rintro e w1 ⟨rfl, g1, cap1, cur1, J1, U1, G1⟩
  have hml := m_len p w1 _ _ _ J1.cellp
  have hl : ((js ++ [x]).length : Nat) = js.length + 1 := by simp
  rw [hl] at hml
  have Hup := hide (up_any p g1 (js ++ [x]) cap1 cur1 (js.length : Int) w1 (by omega) (by rw [hl]; omega) J1)
  have HJ1 := hide J1
  have HU1 := hide U1
  have HG1 := hide G1
  clear J1 U1 G1 hl hmp
  go_wp2_with fail
  refine (len_any _ _ _ _).mono ?_
  rintro e w2 ⟨rfl, rfl⟩
  go_wp2_with fail
  refine Hup.out.mono ?_
  rintro e w2 ⟨rfl, cur2, J2, U2⟩
  go_wp2_with fail
  go_end0
  exact ⟨rfl, g1, cap1, cur2, J2, HU1.out.trans U2 (fun b h => by subst h; rcases HG1.out with h | h; exact .inl (.inr h); exact .inr h), HG1.out⟩
end LA
end Go.Proofs.Ytenfikfgliljmaa
