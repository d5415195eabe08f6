/- Walks of package heap over jobs: Push, Pop, Fix. -/
import Derived.Test.YtenfikfgliljmaaA4
import Derived.Deep.AppendLies
namespace Go.Proofs.Ytenfikfgliljmaa
open Go.RowKit
namespace LA
theorem und93 : Try.prog.underlying 93 = some (.slice 96) := by kernel_rfl
theorem info96 : (Try.prog.info? 96).map (fun i => (i.zero, i.size, i.bytes)) = some (some (.agg #[.int .i64 0, .int .i64 0, .int .i64 0]), 3, 24) := by kernel_rfl

theorem assert96 (v : Value) (w : World) : (Instr.typeAssert (.iface 96 v) 20 96 false).run Try.prog w = .ok v w := by kernel_rfl

/-- What a push leaves. -/
def PushPost (p g : Nat) (js : List Job) (w : World) (e : Ending) (w' : World) : Prop :=
  e = .returned (.tuple #[]) ∧ ∃ g' cap' cur', JAt w' p g' js cap' cur' ∧ Upd (fun b => b = p ∨ b = g) w w' ∧ (g' = g ∨ w.heap.size ≤ g')

theorem app_flat {js : List Job} {x : Job} : flat js ++ [.int .i64 x.need, .int .i64 x.due, .int .i64 x.left] = flat (js ++ [x]) := by
  rw [flat_append]; rfl

/-- A grown row of jobs, read again. -/
theorem JC_of_owns {w : World} {base g n cap : Nat} {js : List Job} (h : w.ownsRow base 96 3 (.slice (some ⟨g, 0, none⟩) n cap) n (flat js)) (hn : n = js.length) (h0 : 0 < n) :
    ∃ cur, Row w g 96 cur ∧ js.length ≤ cap ∧ cap ≤ maxLen ∧ cur.size = cap * 3 ∧ JC cur js := by
  subst hn
  rcases h.2 with ⟨_, h1⟩ | ⟨g', cap', cur, hv, _, hg, h2, h3, h4, h5⟩
  · omega
  · obtain ⟨rfl, rfl⟩ : g' = g ∧ cap' = cap := by simpa using hv.symm
    exact ⟨cur, hg, h2, h3, h4, JC_of_take h5⟩

set_option maxHeartbeats 800000 in
set_option maxRecDepth 100000 in
theorem pushm_any (p g : Nat) (js : List Job) (cap : Nat) (cur : Array Value) (x : Job) (w : World) (hlen : js.length ≤ 1099511627776) (HJ : JAt w p g js cap cur) :
    Calls Try.prog 80 #[.pointer (some ⟨p, 0, none⟩), .iface 96 (.agg #[.int .i64 x.need, .int .i64 x.due, .int .i64 x.left])] w (PushPost p g (js ++ [x]) w) := by
  have hcell := HJ.cellp
  have H0 := hide HJ
  have hgw : g < w.heap.size := HJ.2.1.lt
  have hpw : p < w.heap.size := HJ.1.lt
  have Hne := hide HJ.2.2.1
  obtain ⟨i0, hi, hz0, hz1, hz2⟩ := info_parts info96
  have Hi := hide hi; have Hz0 := hide hz0; have Hz1 := hide hz1; have Hz2 := hide hz2
  clear HJ hi hz0 hz1 hz2
  have hta := assert96
  go_enter Try.func80, Try.ntmps80
  go_wp2_with fail
  go_region_law ((refine step_append_lies _ rfl (.tmp 7) (.tmp 10) 93 rfl 0 96 i0 (.agg #[.int .i64 0, .int .i64 0, .int .i64 0]) 3 24 und93 Hi.out Hz0.out Hz1.out Hz2.out rfl (by decide) (.slice (some ⟨g, 0, none⟩) js.length cap) js.length (flat js) (by simp [Act.eval]) (by exact (H0.out.owns 0 (Nat.zero_le _)).alloc _) ⟨w.heap.size, 0, none⟩ 1 1 [.int .i64 x.need, .int .i64 x.due, .int .i64 x.left] (by simp [Act.eval]) rfl (by exact World.news_of_block (cs := #[.int .i64 x.need, .int .i64 x.due, .int .i64 x.left]) (heap_alloc_new w _)) (by simp [Value.oneCell']) (by decide) (by unfold maxLen; omega) (by omega) (Nat.zero_le _) (w.heap.size + 1) (by simp) ?_); intro g2 cap2 w2 hown2 hgrow2 hat2 hlt2; have rp2 : Hid (Row w2 p 93 #[.slice (some ⟨g, 0, none⟩) js.length cap]) := hide ((hgrow2.block p (by simp; omega) (by simp [Value.ownBlock]; exact fun e => Hne.out e.symm)).trans ((H0.out.1).alloc _)); have fp2 := rp2.out.frozen 0; have cp2 : w2.cell? ⟨p, 0, none⟩ = some (.slice (some ⟨g, 0, none⟩) js.length cap) := rp2.out.cell rfl; have Ho2 := hide hown2; have Hg2 := hide hgrow2; have Ha2 := hide hat2; clear hown2 hgrow2 hat2)
  all_goals
    go_end0
    have hU : Upd (fun b => b = p ∨ b = g) w w2 := ((Upd.alloc w _).trans (Upd.drew (S := (· = g)) _) (fun b h => .inl (.inr h))).trans (Upd.of_grownBy (S := (· = g)) Hg2.out (fun b h => by simpa [Value.ownBlock] using h.symm)) (fun b h => .inl (.inr h))
    have ho := Ho2.out
    rw [app_flat] at ho
    obtain ⟨cu2, r2, l2, m2, s2, j2⟩ := JC_of_owns ho (by simp) (by omega)
    have hg2 : g2 = g ∨ w.heap.size ≤ g2 := by
      rcases Ha2.out with h | h
      · left; simpa [Value.ownBlock] using h.symm
      · right; omega
    have hne2 : g2 ≠ p := by
      rcases hg2 with h | h
      · rw [h]; exact Hne.out
      · omega
    refine ⟨rfl, g2, cap2, cu2, ⟨?_, r2.setCell_ne (Ne.symm hne2) _, hne2, l2, m2, s2, j2⟩, hU.trans (Upd.setCell _ _ _ (S := (· = p)) rfl) (fun b h => .inl (.inl h)), hg2⟩
    have := rp2.out.setCell 0 (.slice (some ⟨g2, 0, none⟩) (js.length + 1) cap2)
    rw [show (js ++ [x]).length = js.length + 1 by simp]
    exact this
end LA
end Go.Proofs.Ytenfikfgliljmaa
namespace Go.Proofs.Ytenfikfgliljmaa
open Go.RowKit
namespace LA
theorem JC.init {cur : Array Value} {ys : List Job} {x : Job} (h : JC cur (ys ++ [x])) : JC cur ys := by
  refine ⟨by have := h.1; simp at this; omega, fun i hi => ?_⟩
  have := h.2 i (by simp; omega)
  rw [List.getElem_append_left hi] at this
  exact this

/-- What the method Pop leaves. -/
def PopmPost (p g : Nat) (ys : List Job) (x : Job) (cap : Nat) (w : World) (e : Ending) (w' : World) : Prop :=
  e = .returned (.iface 96 x.agg) ∧ ∃ cur', JAt w' p g ys cap cur' ∧ Upd (fun b => b = p) w w'

set_option maxHeartbeats 800000 in
set_option maxRecDepth 100000 in
theorem popm_any (p g : Nat) (ys : List Job) (x : Job) (cap : Nat) (cur : Array Value) (w : World) (hlen : ys.length ≤ 1099511627776) (HJ : JAt w p g (ys ++ [x]) cap cur) :
    Calls Try.prog 79 #[.pointer (some ⟨p, 0, none⟩)] w (PopmPost p g ys x cap w) := by
  have hcell := HJ.cellp
  rw [List.length_append, List.length_singleton] at hcell
  have hgw : g < w.heap.size := HJ.2.1.lt
  have hpw : p < w.heap.size := HJ.1.lt
  have hcap : ys.length + 1 ≤ cap := by have := HJ.2.2.2.1; simpa using this
  have hf : w.frozen? ⟨p, 0, none⟩ = false := HJ.1.frozen 0
  obtain ⟨ci0, ci1, ci2⟩ := HJ.2.2.2.2.2.2.2 ys.length (by simp)
  rw [List.getElem_concat_length rfl] at ci0 ci1 ci2
  replace ci0 := HJ.2.1.cell ci0
  replace ci1 := HJ.2.1.cell ci1
  replace ci2 := HJ.2.1.cell ci2
  have H0 := hide HJ
  clear HJ
  go_enter Try.func79, Try.ntmps79
  go_wp2
  go_ret
  have hr := H0.out.1.setCell 0 (.slice (some ⟨g, 0, none⟩) ys.length cap)
  refine ⟨rfl, cur, ⟨hr.alloc _, ((H0.out.2.1).setCell_ne (Ne.symm H0.out.2.2.1) _).alloc _, H0.out.2.2.1, by omega, H0.out.2.2.2.2.1, H0.out.2.2.2.2.2.1, H0.out.2.2.2.2.2.2.init⟩, ?_⟩
  exact (Upd.setCell _ _ _ (S := (· = p)) rfl).trans (Upd.alloc _ _) (fun _ h => .inl h)

set_option maxHeartbeats 800000 in
set_option maxRecDepth 100000 in
theorem len_any (A : Option Addr) (n cap : Nat) (w : World) : Calls Try.prog 55 #[.slice A n cap] w fun e w' => e = .returned (.int .i64 n) ∧ w = w' := by
  go_enter Try.func55, Try.ntmps55
  go_wp2
  go_ret
  exact ⟨rfl, rfl⟩

set_option maxHeartbeats 800000 in
set_option maxRecDepth 100000 in
theorem hpush_any (p g : Nat) (js : List Job) (cap : Nat) (cur : Array Value) (x : Job) (w : World) (hlen : js.length ≤ 1099511627775) (HJ : JAt w p g js cap cur) :
    Calls Try.prog 54 #[.iface 91 (.pointer (some ⟨p, 0, none⟩)), .iface 96 (.agg #[.int .i64 x.need, .int .i64 x.due, .int .i64 x.left])] w (PushPost p g (upL (js ++ [x]) js.length) w) := by
  have hmp := m_push p w
  have Hp := hide (pushm_any p g js cap cur x w (by omega) HJ)
  clear HJ
  go_enter Try.func54, Try.ntmps54
  go_wp2_with fail
  refine Hp.out.mono ?_
  rintro e w1 ⟨rfl, g1, cap1, cur1, J1, U1, G1⟩
  have hml := m_len p w1 _ _ _ J1.cellp
  have hl : ((js ++ [x]).length : Nat) = js.length + 1 := by simp
  rw [hl] at hml
  have Hup := hide (up_any p g1 (js ++ [x]) cap1 cur1 (js.length : Int) w1 (by omega) (by rw [hl]; omega) J1)
  have HJ1 := hide J1
  have HU1 := hide U1
  have HG1 := hide G1
  clear J1 U1 G1 hl hmp
  go_wp2_with fail
  refine (len_any _ _ _ _).mono ?_
  rintro e w2 ⟨rfl, rfl⟩
  go_wp2_with fail
  refine Hup.out.mono ?_
  rintro e w2 ⟨rfl, cur2, J2, U2⟩
  go_wp2_with fail
  go_end0
  exact ⟨rfl, g1, cap1, cur2, J2, HU1.out.trans U2 (fun b h => by subst h; rcases HG1.out with h | h; exact .inl (.inr h); exact .inr h), HG1.out⟩
end LA
end Go.Proofs.Ytenfikfgliljmaa
namespace Go.Proofs.Ytenfikfgliljmaa
open Go.RowKit
namespace LA
theorem downL_length (n : Nat) : ∀ (d i : Nat) (l : List Job), n - i ≤ d → (downL l i n).1.length = l.length := by
  intro d
  induction d with
  | zero => intro i l h; rw [downL_end l i n (by omega)]
  | succ d ih =>
    intro i l h
    by_cases h0 : n ≤ 2 * i + 1
    · rw [downL_end l i n h0]
    · cases hk : lessJ (l.getD (kid l i n) .zero) (l.getD i .zero) with
      | false => rw [downL_no l i n h0 hk]
      | true =>
        rw [downL_yes l i n h0 hk, ih _ _ (by have : i < kid l i n := by unfold kid; split <;> omega
                                              omega), swapL_length]

/-- What a heap is behind the removal of its head. -/
def popL (js : List Job) : List Job := (downL (swapL js 0 (js.length - 1)) 0 (js.length - 1)).1

def PopPost (p g : Nat) (d : List Job) (cap : Nat) (w : World) (e : Ending) (w' : World) : Prop :=
  e = .returned (.iface 96 (d.getLast?.getD .zero).agg) ∧ ∃ cur', JAt w' p g d.dropLast cap cur' ∧ Upd (fun b => b = p ∨ b = g) w w'

set_option maxHeartbeats 800000 in
set_option maxRecDepth 100000 in
theorem hpop_any (p g : Nat) (js : List Job) (cap : Nat) (cur : Array Value) (w : World) (hlen : js.length ≤ 1099511627775) (h0 : 0 < js.length) (HJ : JAt w p g js cap cur) :
    Calls Try.prog 57 #[.iface 91 (.pointer (some ⟨p, 0, none⟩))] w (PopPost p g (popL js) cap w) := by
  obtain ⟨m, hm⟩ : ∃ m, js.length = m + 1 := ⟨js.length - 1, by omega⟩
  have hml := m_len p w _ _ _ HJ.cellp
  have hms := m_swap p w _ _ _ HJ.cellp
  rw [hm] at hml hms
  have hsw := swap_any g (m + 1) cap 0 (m : Int) cur js w (by omega) (by omega) (by omega) (by omega) hm.symm HJ.2.1 HJ.2.2.2.2.2.2
  rw [Int.toNat_natCast, show (0 : Int).toNat = 0 from rfl] at hsw
  have Hsw := hide hsw
  have H0 := hide HJ
  have Hm := hide hm
  clear hsw HJ hm
  have hm : m < 1099511627775 := by have := Hm.out; omega
  go_enter Try.func57, Try.ntmps57
  go_wp2_with fail
  refine (len_any _ _ _ _).mono ?_
  rintro e w1 ⟨rfl, rfl⟩
  go_wp2_with fail
  refine Hsw.out.mono ?_
  rintro e w1 ⟨rfl, cu1, s1, r1, c1, u1⟩
  have J1 : JAt w1 p g (swapL js 0 m) cap cu1 := H0.out.upd u1 (fun e => H0.out.2.2.1 e.symm) s1 r1 c1 (swapL_length _ _ _)
  have Hd := hide (down_any p g (swapL js 0 m) cap cu1 0 (m : Int) w1 (by omega) (by omega) (by rw [swapL_length, Hm.out]; omega) (by rw [swapL_length]; omega) J1)
  have U1 := hide u1
  clear s1 r1 c1 u1 J1
  go_wp2_with fail
  refine Hd.out.mono ?_
  rintro e w2 ⟨he, cu2, J2, u2⟩
  rw [Int.toNat_natCast, show (0 : Int).toNat = 0 from rfl] at he J2
  subst he
  have hpl : (downL (swapL js 0 m) 0 m).1 = popL js := by unfold popL; rw [Hm.out]; rfl
  have hl2 : (popL js).length = m + 1 := by rw [← hpl, downL_length m m 0 _ (by omega), swapL_length, Hm.out]
  rw [hpl] at J2
  have hne : popL js ≠ [] := by intro h; rw [h] at hl2; simp at hl2
  rw [show popL js = (popL js).dropLast ++ [(popL js).getLast?.getD .zero] by rw [List.getLast?_eq_some_getLast hne]; exact (List.dropLast_concat_getLast hne).symm] at J2
  have hmp := m_pop p w2
  have Hp := hide (popm_any p g (popL js).dropLast ((popL js).getLast?.getD .zero) cap cu2 w2 (by rw [List.length_dropLast, hl2]; omega) J2)
  have U2 := hide u2
  clear u2 J2 hl2 hpl hne
  generalize popL js = d at *
  generalize decide (0 < (downL (swapL js 0 m) 0 m).2) = bb
  go_wp2_with fail
  refine Hp.out.mono ?_
  rintro e w3 ⟨rfl, cu3, J3, u3⟩
  go_wp2_with fail
  go_ret
  exact ⟨rfl, cu3, J3, ((U1.out.trans U2.out (fun _ h => .inl h)).mono (fun b h _ => .inr h)).trans u3 (fun b h => .inl (.inl h))⟩

def FixPost (p g : Nat) (d : List Job) (cap : Nat) (w : World) (e : Ending) (w' : World) : Prop :=
  e = .returned (.tuple #[]) ∧ ∃ cur', JAt w' p g d cap cur' ∧ Upd (fun b => b = g) w w'

set_option maxHeartbeats 800000 in
set_option maxRecDepth 100000 in
theorem hfix_any (p g : Nat) (js : List Job) (cap : Nat) (cur : Array Value) (w : World) (hlen : js.length ≤ 1099511627775) (h0 : 0 < js.length) (HJ : JAt w p g js cap cur) :
    Calls Try.prog 56 #[.iface 91 (.pointer (some ⟨p, 0, none⟩)), .int .i64 0] w (FixPost p g (downL js 0 js.length).1 cap w) := by
  have hml := m_len p w _ _ _ HJ.cellp
  have Hd := hide (down_any p g js cap cur 0 (js.length : Int) w (by omega) (by omega) (by omega) (by omega) HJ)
  clear HJ
  go_enter Try.func56, Try.ntmps56
  go_wp2_with fail
  refine (len_any _ _ _ _).mono ?_
  rintro e w1 ⟨rfl, rfl⟩
  go_wp2_with fail
  refine Hd.out.mono ?_
  rintro e w2 ⟨he, cu2, J2, u2⟩
  rw [Int.toNat_natCast, show (0 : Int).toNat = 0 from rfl] at he J2
  have hl2 : (downL js 0 js.length).1.length = js.length := downL_length _ js.length 0 _ (by omega)
  have Hup := up_any p g (downL js 0 js.length).1 cap cu2 0 w2 (by omega) (by rw [hl2]; omega) J2
  rw [show (0 : Int).toNat = 0 from rfl, upL_zero] at Hup
  have Hup' := hide Hup
  have HJ2 := hide J2
  have U2 := hide u2
  clear Hup J2 u2 hl2
  generalize (downL js 0 js.length).1 = d at *
  cases hb : decide (0 < (downL js 0 js.length).2) with
  | true =>
    rw [hb] at he
    subst he
    clear hb
    go_wp2_with fail
    go_end0
    exact ⟨rfl, cu2, HJ2.out, U2.out⟩
  | false =>
    rw [hb] at he
    subst he
    clear hb
    go_wp2_with fail
    refine Hup'.out.mono ?_
    rintro e w3 ⟨rfl, cu3, J3, u3⟩
    go_wp2_with fail
    go_end0
    exact ⟨rfl, cu3, J3, U2.out.trans u3 (fun _ h => .inl h)⟩
end LA
end Go.Proofs.Ytenfikfgliljmaa
