/- bulkheadlaw9's named: needs of names of their own. -/
import Derived.Test.YtenfikfgliljmaaB6
import Derived.Test.YtenfikfgliljmaaND
import Derived.Laws.IdiomStrings
namespace Go.Proofs.Ytenfikfgliljmaa
open Go.RowKit
namespace LA
/-- The same needs by other names, none of them empty. -/
def Renamed (xs ys : List Need) : Prop := ys.length = xs.length ∧ ∀ i (h : i < xs.length) (h' : i < ys.length), ys[i].budget = xs[i].budget ∧ ys[i].period = xs[i].period ∧ ys[i].subj.toList ≠ []
def NamedPost (xs : List Need) (w : World) (e : Ending) (w' : World) : Prop :=
  ∃ ys A cap, e = .returned (laneV 0 0 true A ys.length cap) ∧ Renamed xs ys ∧ RunsAt w' A ys ∧ Below w.heap.size w w' ∧ ∀ b off, A = some ⟨b, off, none⟩ → w.heap.size ≤ b

/-- The memory of named: the lane handed in, the result, the lane that grows, its row. -/
structure NmAt (w wr : World) (lp lc : Int) (needs : Bool) (A : Option Addr) (n cap0 : Nat) (v : Value) (ys : List Need) : Prop where
  r0 : Row wr w.heap.size 31 #[.int .i64 lp, .int .u64 lc, .bool needs, .slice A n cap0]
  r1 : Row wr (w.heap.size + 1) 31 #[.int .i64 0, .int .u64 0, .bool false, .slice none 0 0]
  r2 : Row wr (w.heap.size + 2) 31 #[.int .i64 0, .int .u64 0, .bool true, v]
  own : wr.ownsRow (w.heap.size + 3) 28 4 v ys.length (ys.flatMap NdF)
  bel : Below w.heap.size w wr
  sz : w.heap.size + 3 ≤ wr.heap.size

/-- The world with the run, its letters and its copy laid. -/
abbrev nmW (wr : World) (x : Need) (s : ByteArray) (L : Array Value) : World := (wr.alloc (.cells #[.int .i64 x.pos, .string s, .int .u64 x.budget, .int .u64 x.period] 28)).alloc (.cells L 5)
theorem nmNew (wr : World) (x : Need) (s : ByteArray) (L : Array Value) (o : Obj) : ((nmW wr x s L).alloc o).heap[wr.heap.size + 1 + 1]? = some o := by
  have := heap_alloc_new (nmW wr x s L) o
  rwa [show (nmW wr x s L).heap.size = wr.heap.size + 1 + 1 by simp] at this
theorem ownBlock_base {w : World} {B e size n : Nat} {v : Value} {xs : List Value} (h : w.ownsRow B e size v n xs) : ∀ k, v.ownBlock = some k → B ≤ k ∧ k < w.heap.size := by
  intro k hk
  rcases h.2 with ⟨h1, _⟩ | ⟨g, cap, cur, hv, hb, hg, _⟩
  · rw [h1] at hk; cases hk
  · rw [hv] at hk
    obtain rfl : g = k := by simpa [Value.ownBlock] using hk
    exact ⟨hb, Row.lt (show Row w g e cur from hg)⟩
section
variable {w wr w2 : World} {lp lc : Int} {needs : Bool} {A : Option Addr} {n cap0 : Nat} {v : Value} {ys : List Need}
theorem NmAt.rows (h : NmAt w wr lp lc needs A n cap0 v ys) {w2 : World} (hu : Upd (fun b => v.ownBlock = some b) wr w2) : Row w2 w.heap.size 31 #[.int .i64 lp, .int .u64 lc, .bool needs, .slice A n cap0] ∧ Row w2 (w.heap.size + 1) 31 #[.int .i64 0, .int .u64 0, .bool false, .slice none 0 0] ∧ Row w2 (w.heap.size + 2) 31 #[.int .i64 0, .int .u64 0, .bool true, v] ∧ Below w.heap.size w w2 := by
  have hb := ownBlock_base h.own
  exact ⟨hu.row h.r0 (fun e => by have := hb _ e; omega), hu.row h.r1 (fun e => by have := hb _ e; omega), hu.row h.r2 (fun e => by have := hb _ e; omega), h.bel.trans (hu.below (fun b e => by have := hb _ e; omega) (by have := h.sz; omega))⟩
theorem NmAt.upd (x : Need) (s : ByteArray) (L : Array Value) (hg : ((nmW wr x s L).alloc (.cells #[.int .i64 x.pos, .string s, .int .u64 x.budget, .int .u64 x.period] 28)).grownBy w2 v.ownBlock) : Upd (fun b => v.ownBlock = some b) wr w2 :=
  (((Upd.alloc wr _).trans (Upd.alloc _ _ (S := fun _ => False)) (fun _ e => e.elim)).trans (Upd.alloc _ _ (S := fun _ => False)) (fun _ e => e.elim)).trans (Upd.of_grownBy hg (fun _ e => e)) (fun _ e => .inl e)
theorem NmAt.app (h : NmAt w wr lp lc needs A n cap0 v ys) (x : Need) (s : ByteArray) {g2 cap2 : Nat} (hu : Upd (fun b => v.ownBlock = some b) wr w2)
    (hown : w2.ownsRow (w.heap.size + 3) 28 4 (.slice (some ⟨g2, 0, none⟩) (ys.length + 1) cap2) (ys.length + 1) (ys.flatMap NdF ++ [.int .i64 x.pos, .string s, .int .u64 x.budget, .int .u64 x.period])) :
    NmAt w (w2.setCell ⟨w.heap.size + 2, 3, none⟩ (.slice (some ⟨g2, 0, none⟩) (ys.length + 1) cap2)) lp lc needs A n cap0 (.slice (some ⟨g2, 0, none⟩) (ys.length + 1) cap2) (ys ++ [⟨x.pos, s, x.budget, x.period⟩]) := by
  obtain ⟨q0, q1, q2, qb⟩ := h.rows hu
  refine ⟨q0.setCell_ne (by simp) _, q1.setCell_ne (by simp) _, ?_, ?_, qb.setCell (by simp) _, by have := h.sz; have := hu.size; simp; omega⟩
  · have := q2.setCell 3 (.slice (some ⟨g2, 0, none⟩) (ys.length + 1) cap2)
    simpa using this
  · have hb := ownsRow_setCell_below hown (a := ⟨w.heap.size + 2, 3, none⟩) (show w.heap.size + 2 < w.heap.size + 3 by omega) (.slice (some ⟨g2, 0, none⟩) (ys.length + 1) cap2)
    simpa [NdF] using hb
end
theorem nm_runs {w wr : World} {lp lc : Int} {needs : Bool} {A A' : Option Addr} {n cap0 c' : Nat} {ys : List Need} (h : NmAt w wr lp lc needs A n cap0 (.slice A' ys.length c') ys) :
    ∀ i (h : i < ys.length), ∃ g, A' = some ⟨g, 0, none⟩ ∧ w.heap.size + 3 ≤ g ∧ wr.cell? ⟨g, i * 4, none⟩ = some (.int .i64 ys[i].pos) ∧ wr.cell? ⟨g, i * 4 + 1, none⟩ = some (.string ys[i].subj) ∧ wr.cell? ⟨g, i * 4 + 2, none⟩ = some (.int .u64 ys[i].budget) ∧ wr.cell? ⟨g, i * 4 + 3, none⟩ = some (.int .u64 ys[i].period) := by
  intro i hi
  have ho := h.own
  obtain ⟨g, cap, hv, hb, hl⟩ := ho.form (by omega)
  obtain ⟨rfl, rfl⟩ : A' = some ⟨g, 0, none⟩ ∧ c' = cap := by simpa using hv
  have key : ∀ j, j < 4 → wr.cell? ⟨g, i * 4 + j, none⟩ = (NdF ys[i])[j]? := fun j hj => by
    rw [World.ownsRow.cellAt ho (i * 4 + j) (by omega), fmap_get NdF 4 (fun _ => rfl) ys i j hi hj]
  exact ⟨g, rfl, hb, key 0 (by omega), key 1 (by omega), key 2 (by omega), key 3 (by omega)⟩
theorem nm_at {w w' : World} {A' : Option Addr} {ys : List Need} {S : Nat → Prop} {B : Nat} (h : ∀ i (h : i < ys.length), ∃ g, A' = some ⟨g, 0, none⟩ ∧ B ≤ g ∧ w.cell? ⟨g, i * 4, none⟩ = some (.int .i64 ys[i].pos) ∧ w.cell? ⟨g, i * 4 + 1, none⟩ = some (.string ys[i].subj) ∧ w.cell? ⟨g, i * 4 + 2, none⟩ = some (.int .u64 ys[i].budget) ∧ w.cell? ⟨g, i * 4 + 3, none⟩ = some (.int .u64 ys[i].period)) (hu : Upd S w w') (hS : ∀ b, S b → b < B) : RunsAt w' A' ys := by
  intro i hi
  obtain ⟨g, rfl, hg, c0, c1, c2, c3⟩ := h i hi
  have hs : ¬ S g := fun e => by have := hS g e; omega
  exact ⟨g, 0, rfl, by simpa using hu.cell c0 hs, by simpa using hu.cell c1 hs, by simpa using hu.cell c2 hs, by simpa using hu.cell c3 hs⟩
theorem toList_loop (b : ByteArray) : ∀ n i r, b.size = i + n → (ByteArray.toList.loop b i r).length = r.length + n
  | 0, i, r, h => by rw [ByteArray.toList.loop, if_neg (by omega)]; simp
  | n + 1, i, r, h => by rw [ByteArray.toList.loop, if_pos (by omega), toList_loop b n (i + 1) _ (by omega)]; simp; omega
theorem toList_len (b : ByteArray) : b.toList.length = b.size := by
  rw [ByteArray.toList, toList_loop b b.size 0 [] (by omega)]; simp
theorem n_ne (t : ByteArray) : ((⟨#[110]⟩ : ByteArray) ++ t).toList ≠ [] := by
  intro h
  have h1 := toList_len ((⟨#[110]⟩ : ByteArray) ++ t)
  rw [h, ByteArray.size_append] at h1
  have h2 : (⟨#[110]⟩ : ByteArray).size = 1 := rfl
  simp only [List.length_nil] at h1
  omega
/-- The letters of a name, as a text. -/
theorem letters (W : World) (b : Nat) (k : Nat) (hb : W.heap[b]? = some (.cells #[.int .u8 (97 + (k : Int) % 26), .int .u8 (97 + (k : Int) / 26 % 26), .int .u8 (97 + (k : Int) / 676 % 26)] 5 (0, 0))) :
    ∃ t : ByteArray, t.size ≤ 3 ∧ (convert 87 9 (.slice (some ⟨b, 0, none⟩) 3 3)).run Try.prog W = .ok (.string t) W := by
  refine ⟨_, ?_, run_convert_bytes_back (P := Try.prog) W 87 9 5 ⟨b, 0, none⟩ 3 [UInt8.ofNat (97 + k % 26), UInt8.ofNat (97 + k / 26 % 26), UInt8.ofNat (97 + k / 676 % 26)] Try.underlying87 Try.underlying5 Try.underlying9 ?_⟩
  · exact Nat.le_refl 3
  intro j hj
  have hj3 : j < 3 := hj
  have e : (⟨b, 0, none⟩ : Addr).add j = ⟨b, j, none⟩ := by unfold Addr.add; split <;> simp_all
  rw [e, cell_of_row W b j _ 5 (0, 0) hb]
  have h3 : j = 0 ∨ j = 1 ∨ j = 2 := by omega
  rcases h3 with rfl | rfl | rfl
  · simp; omega
  · simp; omega
  · simp; omega

set_option maxHeartbeats 1600000 in
set_option maxRecDepth 100000 in
theorem named_any (lp lc : Int) (needs : Bool) (A : Option Addr) (cap0 : Nat) (xs : List Need) (w : World) (hn : xs.length ≤ 3518437208780) (hr : RunsAt w A xs) :
    Calls Try.prog 28 #[laneV lp lc needs A xs.length cap0] w (NamedPost xs w) := by
  have HR := hide hr
  clear hr
  have h0 : NmAt w ((((w.alloc (.cells #[.int .i64 lp, .int .u64 lc, .bool needs, .slice A xs.length cap0] 31)).alloc (.cells #[.int .i64 0, .int .u64 0, .bool false, .slice none 0 0] 31)).alloc (.cells #[.int .i64 0, .int .u64 0, .bool true, .slice none 0 0] 31))) lp lc needs A xs.length cap0 (.slice none 0 0) [] :=
    ⟨((Row.alloc_new w _ 31).alloc _).alloc _, by
      have := (Row.alloc_new (w.alloc (.cells #[.int .i64 lp, .int .u64 lc, .bool needs, .slice A xs.length cap0] 31)) #[.int .i64 0, .int .u64 0, .bool false, .slice none 0 0] 31).alloc (.cells #[.int .i64 0, .int .u64 0, .bool true, .slice none 0 0] 31)
      simpa using this, by
      have := Row.alloc_new ((w.alloc (.cells #[.int .i64 lp, .int .u64 lc, .bool needs, .slice A xs.length cap0] 31)).alloc (.cells #[.int .i64 0, .int .u64 0, .bool false, .slice none 0 0] 31)) #[.int .i64 0, .int .u64 0, .bool true, .slice none 0 0] 31
      simpa using this, World.ownsRow_nil _ _ _ _, (((Below.refl _ w).alloc (Nat.le_refl _) _).alloc (by simp) _).alloc (by simp; omega) _, by simp⟩
  have H0 := hide h0
  clear h0
  go_enter Try.func28, Try.ntmps28
  go_wp2_with fail
  go_loopw [4] (fun v4 wr => ∃ (k : Nat) (ys : List Need) (v : Value), v4 = .int .i64 k ∧ k ≤ xs.length ∧ ys.length = k ∧ Hid (Renamed (xs.take k) ys) ∧ Hid (NmAt w wr lp lc needs A xs.length cap0 v ys)) (fun v _ => xs.length - (intOf v).toNat)
  case atStart => exact ⟨0, [], _, rfl, Nat.zero_le _, rfl, hide ⟨rfl, fun i h => absurd h (by simp)⟩, H0⟩
  case round =>
    obtain ⟨k, ys, v, rfl, hk, rfl, HY, HM⟩ := hrel
    have c3 := HM.out.r0.cell (o := 3) rfl
    by_cases hlt : ys.length < xs.length
    · obtain ⟨b, off, hA, n0, n1, n2, n3⟩ := HR.out ys.length hlt
      subst hA
      obtain ⟨x, hx⟩ : ∃ x, x = xs[ys.length] := ⟨_, rfl⟩
      rw [← hx] at n0 n1 n2 n3
      have lb := World.block_lt_of_cell? w _ n0
      replace n0 := (HM.out.bel.cell (p := ⟨b, off + ys.length * 4, none⟩) lb).trans n0
      replace n1 := (HM.out.bel.cell (p := ⟨b, off + ys.length * 4 + 1, none⟩) lb).trans n1
      replace n2 := (HM.out.bel.cell (p := ⟨b, off + ys.length * 4 + 2, none⟩) lb).trans n2
      replace n3 := (HM.out.bel.cell (p := ⟨b, off + ys.length * 4 + 3, none⟩) lb).trans n3
      have Hx := hide hx
      clear hx
      obtain ⟨t, ht, hcb⟩ := letters ((wr.alloc (.cells #[.int .i64 x.pos, .string x.subj, .int .u64 x.budget, .int .u64 x.period] 28)).alloc (.cells #[.int .u8 (97 + (ys.length : Int) % 26), .int .u8 (97 + (ys.length : Int) / 26 % 26), .int .u8 (97 + (ys.length : Int) / 676 % 26)] 5)) (wr.heap.size + 1) ys.length (by have := heap_alloc_new (wr.alloc (.cells #[.int .i64 x.pos, .string x.subj, .int .u64 x.budget, .int .u64 x.period] 28)) (.cells #[.int .u8 (97 + (ys.length : Int) % 26), .int .u8 (97 + (ys.length : Int) / 26 % 26), .int .u8 (97 + (ys.length : Int) / 676 % 26)] 5); simpa using this)
      obtain ⟨s, hs⟩ : ∃ s, s = (⟨#[110]⟩ : ByteArray) ++ t := ⟨_, rfl⟩
      have Hs := hide hs
      obtain ⟨q0, q1, q2, qb⟩ := HM.out.rows (w2 := nmW wr x s #[.int .u8 (97 + (ys.length : Int) % 26), .int .u8 (97 + (ys.length : Int) / 26 % 26), .int .u8 (97 + (ys.length : Int) / 676 % 26)]) ((Upd.alloc wr _).trans (Upd.alloc _ _ (S := fun _ => False)) (fun _ e => e.elim))
      have m3 := q2.cell (o := 3) rfl
      rw [hs] at m3
      have hsz := HM.out.sz
      obtain ⟨i0, hi, hz0, hz1, hz2⟩ := info_parts Ndinfo
      have Hi := hide hi; have Hz0 := hide hz0; have Hz1 := hide hz1; have Hz2 := hide hz2
      clear hi hz0 hz1 hz2 q0 q1 q2 qb hs
      go_wp2_with (at_builtin; go_loud (refine wpList_append_lies _ rfl (.tmp 38) (.tmp 40) 29 rfl (w.heap.size + 3) 28 i0 (.agg #[.int .i64 0, .string ⟨#[]⟩, .int .u64 0, .int .u64 0]) 4 40 Try.underlying29 Hi.out Hz0.out Hz1.out Hz2.out rfl (by decide) v ys.length (ys.flatMap NdF) rfl (((HM.out.own.alloc _).alloc _).alloc _) ⟨wr.heap.size + 1 + 1, 0, none⟩ 1 1 [.int .i64 x.pos, .string (⟨#[110]⟩ ++ t), .int .u64 x.budget, .int .u64 x.period] rfl rfl (by exact World.news_of_block (cs := #[.int .i64 x.pos, .string (⟨#[110]⟩ ++ t), .int .u64 x.budget, .int .u64 x.period]) (nmNew wr x (⟨#[110]⟩ ++ t) #[.int .u8 (97 + (ys.length : Int) % 26), .int .u8 (97 + (ys.length : Int) / 26 % 26), .int .u8 (97 + (ys.length : Int) / 676 % 26)] (.cells #[.int .i64 x.pos, .string (⟨#[110]⟩ ++ t), .int .u64 x.budget, .int .u64 x.period] 28))) (by simp [Value.oneCell']) (by decide) (by unfold maxLen; omega) (by omega) (by simp; omega) (wr.heap.size + 1 + 1 + 1) (by simp) ?_))
      intro g2 cap2 w2 hown2 hgrow2 hat2 hlt2
      have hu := NmAt.upd (v := v) x (⟨#[110]⟩ ++ t) #[.int .u8 (97 + (ys.length : Int) % 26), .int .u8 (97 + (ys.length : Int) / 26 % 26), .int .u8 (97 + (ys.length : Int) / 676 % 26)] hgrow2
      obtain ⟨q0, q1, q2, qb⟩ := HM.out.rows hu
      have HM2 := hide (HM.out.app x (⟨#[110]⟩ ++ t) hu hown2)
      have z3 := q2.cell (o := 3) rfl
      have f3 := q2.frozen 3
      have HY2 : Hid (Renamed (xs.take (ys.length + 1)) (ys ++ [⟨x.pos, ⟨#[110]⟩ ++ t, x.budget, x.period⟩])) := hide (by
        have hl := HY.out.1
        refine ⟨by rw [List.length_append, List.length_singleton, List.length_take]; omega, fun i h h' => ?_⟩
        rw [List.length_append, List.length_singleton] at h'
        by_cases e : i < ys.length
        · have hq := HY.out.2 i (by rw [List.length_take]; omega) e
          rw [List.getElem_append_left e]
          rw [List.getElem_take] at hq ⊢
          exact hq
        · obtain rfl : i = ys.length := by omega
          rw [List.getElem_concat_length rfl, List.getElem_take, ← Hx.out]
          exact ⟨rfl, rfl, n_ne t⟩)
      clear hown2 hgrow2 hat2 hlt2 hu q0 q1 q2 qb n0 n1 n2 n3 c3 m3 hcb
      go_wp2_with fail
      go_roundw
      case rel => exact ⟨ys.length + 1, _, _, by go_num, by omega, by simp, HY2, HM2⟩
      case measure => simp [intOf]; omega
    · obtain ⟨A', c', rfl⟩ : ∃ A' c', v = .slice A' ys.length c' := by
        rcases HM.out.own.2 with ⟨h1, h2⟩ | ⟨g, cap, cur, hv, _⟩
        · exact ⟨none, 0, by rw [h1, h2]⟩
        · exact ⟨_, _, hv⟩
      have e0 := HM.out.r2.cell (o := 0) rfl
      have e1 := HM.out.r2.cell (o := 1) rfl
      have e2 := HM.out.r2.cell (o := 2) rfl
      have e3 := HM.out.r2.cell (o := 3) rfl
      have d0 := HM.out.r1.cell (o := 0) rfl
      have d1 := HM.out.r1.cell (o := 1) rfl
      have d2 := HM.out.r1.cell (o := 2) rfl
      have d3 := HM.out.r1.cell (o := 3) rfl
      have f0 := HM.out.r1.frozen 0
      have f1 := HM.out.r1.frozen 1
      have f2 := HM.out.r1.frozen 2
      have f3 := HM.out.r1.frozen 3
      have R1 := HM.out.r1.setCell 0 (.int .i64 0)
      have R2 := R1.setCell 1 (.int .u64 0)
      have R3 := R2.setCell 2 (.bool true)
      have g1 := R1.cell (o := 1) (v := .int .u64 0) (by simp)
      have g2 := R2.cell (o := 2) (v := .bool false) (by simp)
      have g3 := R3.cell (o := 3) (v := .slice none 0 0) (by simp)
      have k1 := R1.frozen 1
      have k2 := R2.frozen 2
      have k3 := R3.frozen 3
      clear R1 R2 R3
      have R4 := (((HM.out.r1.setCell 0 (.int .i64 0)).setCell 1 (.int .u64 0)).setCell 2 (.bool true)).setCell 3 (.slice A' ys.length c')
      have x0 := R4.cell (o := 0) (v := .int .i64 0) (by simp)
      have x1 := R4.cell (o := 1) (v := .int .u64 0) (by simp)
      have x2 := R4.cell (o := 2) (v := .bool true) (by simp)
      have x3 := R4.cell (o := 3) (v := .slice A' ys.length c') (by simp)
      clear R4
      have HX : Hid (NamedPost xs w (.returned (laneV 0 0 true A' ys.length c')) ((((wr.setCell ⟨w.heap.size + 1, 0, none⟩ (.int .i64 0)).setCell ⟨w.heap.size + 1, 1, none⟩ (.int .u64 0)).setCell ⟨w.heap.size + 1, 2, none⟩ (.bool true)).setCell ⟨w.heap.size + 1, 3, none⟩ (.slice A' ys.length c'))) := hide (by
        have hu := (((Upd.setCell wr ⟨w.heap.size + 1, 0, none⟩ (.int .i64 0) (S := (· = w.heap.size + 1)) rfl).trans (Upd.setCell _ ⟨w.heap.size + 1, 1, none⟩ (.int .u64 0) (S := (· = w.heap.size + 1)) rfl) (fun _ e => .inl e)).trans (Upd.setCell _ ⟨w.heap.size + 1, 2, none⟩ (.bool true) (S := (· = w.heap.size + 1)) rfl) (fun _ e => .inl e)).trans (Upd.setCell _ ⟨w.heap.size + 1, 3, none⟩ (.slice A' ys.length c') (S := (· = w.heap.size + 1)) rfl) (fun _ e => .inl e)
        refine ⟨ys, A', c', rfl, ?_, ?_, ?_, fun b off e => ?_⟩
        · have := HY.out
          rw [List.take_of_length_le (by omega)] at this
          exact this
        · exact nm_at (nm_runs HM.out) hu (fun b e => by omega)
        · exact HM.out.bel.trans (hu.below (fun b e => by omega) HM.out.bel.size)
        · have := ownBlock_base HM.out.own b (by rw [e]; rfl)
          omega)
      go_wp2_with fail
      exact bodyPost_ret (v := laneV 0 0 true A' ys.length c') (by simp [results, Try.results28, go_sem, x0, x1, x2, x3]) rfl HX.out
end LA
end Go.Proofs.Ytenfikfgliljmaa
