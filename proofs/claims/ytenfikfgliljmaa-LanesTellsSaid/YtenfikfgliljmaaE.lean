/- The memory of lanes.earliest: a row that grows, two heaps; plain. -/
import Derived.Test.YtenfikfgliljmaaJ
import Derived.Test.YtenfikfgliljmaaS
namespace Go.Proofs.Ytenfikfgliljmaa.LA
open Go.RowKit

/-- A run, an idle, a need. -/
structure Need where
  pos : Int
  subj : ByteArray
  budget : Int
  period : Int

def Need.zero : Need := ⟨0, ByteArray.empty, 0, 0⟩

/-- A slice of runs reads so, from its address on. -/
def RunsAt (w : World) (A : Option Addr) (xs : List Need) : Prop :=
  ∀ i (h : i < xs.length), ∃ b off, A = some ⟨b, off, none⟩ ∧ w.cell? ⟨b, off + i * 4, none⟩ = some (.int .i64 xs[i].pos) ∧ w.cell? ⟨b, off + i * 4 + 1, none⟩ = some (.string xs[i].subj) ∧
    w.cell? ⟨b, off + i * 4 + 2, none⟩ = some (.int .u64 xs[i].budget) ∧ w.cell? ⟨b, off + i * 4 + 3, none⟩ = some (.int .u64 xs[i].period)

theorem RunsAt.below {w w' : World} {A : Option Addr} {xs : List Need} (h : RunsAt w A xs) (hb : Below w.heap.size w w') : RunsAt w' A xs := by
  intro i hi
  obtain ⟨b, off, rfl, h0, h1, h2, h3⟩ := h i hi
  exact ⟨b, off, rfl, (hb.cell (World.block_lt_of_cell? w _ h0)).trans h0, (hb.cell (World.block_lt_of_cell? w _ h1)).trans h1, (hb.cell (World.block_lt_of_cell? w _ h2)).trans h2, (hb.cell (World.block_lt_of_cell? w _ h3)).trans h3⟩

/-- What lanes.earliest holds: the row behind pw, the jobs that wait behind pa, what is released next behind pn; all its own, from block B on. -/
structure ES (W : World) (w : World) (pw pa pn : Nat) (ys : List Slot) (o : Option Nat) (wait : List Job) (ga ca : Nat) (cua : Array Value) (next : List Job) (gn cn : Nat) (cun : Array Value) : Prop where
  below : Below W.heap.size W w
  row : WAt w pw o ys
  jw : JAt w pa ga wait ca cua
  jn : JAt w pn gn next cn cun
  bw : W.heap.size ≤ pw
  ba : W.heap.size ≤ pa
  bn : W.heap.size ≤ pn
  bo : ∀ g, o = some g → W.heap.size ≤ g ∧ g ≠ pa ∧ g ≠ pn ∧ g ≠ ga ∧ g ≠ gn
  bga : W.heap.size ≤ ga
  bgn : W.heap.size ≤ gn
  wa : pw ≠ pa
  wn : pw ≠ pn
  an : pa ≠ pn
  gaw : ga ≠ pw
  gan : ga ≠ pn
  gnw : gn ≠ pw
  gna : gn ≠ pa
  gg : ga ≠ gn

theorem JAt.upd0 {w w' : World} {p g : Nat} {js : List Job} {cap : Nat} {cur : Array Value} {S : Nat → Prop} (h : JAt w p g js cap cur) (hu : Upd S w w') (hp : ¬ S p) (hg : ¬ S g) : JAt w' p g js cap cur :=
  ⟨hu.row h.1 hp, hu.row h.2.1 hg, h.2.2⟩

section
variable {W w w' : World} {pw pa pn ga ca gn cn : Nat} {ys : List Slot} {o : Option Nat} {wait next : List Job} {cua cun : Array Value}

theorem WAt.blk {w : World} {p : Nat} {o : Option Nat} {ys : List Slot} (h : WAt w p o ys) : p < w.heap.size ∧ ∀ g, o = some g → g < w.heap.size := by
  cases o with
  | none => exact ⟨h.2.lt, fun g e => by cases e⟩
  | some g => obtain ⟨_, cap, cur, hr, hs, _⟩ := h; exact ⟨hr.lt, fun g' e => by cases e; exact hs.1.lt⟩

/-- Nothing of it is turned: a new block, a draw. -/
theorem ES.idle (h : ES W w pw pa pn ys o wait ga ca cua next gn cn cun) (hu : Upd (fun _ => False) w w') : ES W w' pw pa pn ys o wait ga ca cua next gn cn cun :=
  { h with
    below := h.below.trans (hu.below (fun _ h => h.elim) h.below.size)
    row := h.row.upd hu (fun h => h) (fun _ _ h => h)
    jw := h.jw.upd0 hu (fun h => h) (fun h => h)
    jn := h.jn.upd0 hu (fun h => h) (fun h => h) }

theorem ES.row_run (h : ES W w pw pa pn ys o wait ga ca cua next gn cn cun) {o' : Option Nat} {ys' : List Slot} (hr : WAt w' pw o' ys') (hu : Upd (fun b => b = pw ∨ some b = o) w w') (hf : o' = o ∨ ∃ g, o' = some g ∧ w.heap.size ≤ g) :
    ES W w' pw pa pn ys' o' wait ga ca cua next gn cn cun := by
  have hs := h.below.size
  have hpa : ¬ (pa = pw ∨ some pa = o) := by rintro (e | e); exact h.wa e.symm; exact (h.bo pa e.symm).2.1 rfl
  have hpn : ¬ (pn = pw ∨ some pn = o) := by rintro (e | e); exact h.wn e.symm; exact (h.bo pn e.symm).2.2.1 rfl
  have hga : ¬ (ga = pw ∨ some ga = o) := by rintro (e | e); exact h.gaw e; exact (h.bo ga e.symm).2.2.2.1 rfl
  have hgn : ¬ (gn = pw ∨ some gn = o) := by rintro (e | e); exact h.gnw e; exact (h.bo gn e.symm).2.2.2.2 rfl
  refine { h with below := ?_, row := hr, jw := h.jw.upd0 hu hpa hga, jn := h.jn.upd0 hu hpn hgn, bo := ?_ }
  · exact h.below.trans (hu.below (fun b hb => by rcases hb with e | e; rw [e]; exact h.bw; exact (h.bo b e.symm).1) hs)
  · intro g hg
    rcases hf with e | ⟨g', e, hlt⟩
    · exact h.bo g (by rw [← e]; exact hg)
    · rw [e] at hg
      cases hg
      have l1 := h.jw.1.lt; have l2 := h.jn.1.lt; have l3 := h.jw.2.1.lt; have l4 := h.jn.2.1.lt
      exact ⟨by omega, by omega, by omega, by omega, by omega⟩

theorem ES.wait_turn (h : ES W w pw pa pn ys o wait ga ca cua next gn cn cun) {ga' ca' : Nat} {cua' : Array Value} {wait' : List Job} (hj : JAt w' pa ga' wait' ca' cua') (hu : Upd (fun b => b = pa ∨ b = ga) w w') (hf : ga' = ga ∨ w.heap.size ≤ ga') :
    ES W w' pw pa pn ys o wait' ga' ca' cua' next gn cn cun := by
  have hs := h.below.size
  have l0 := h.row.blk
  have l2 := h.jn.1.lt; have l3 := h.jw.2.1.lt; have l4 := h.jn.2.1.lt
  have hpw : ¬ (pw = pa ∨ pw = ga) := by rintro (e | e); exact h.wa e; exact h.gaw e.symm
  have hpn : ¬ (pn = pa ∨ pn = ga) := by rintro (e | e); exact h.an e.symm; exact h.gan e.symm
  have hgn : ¬ (gn = pa ∨ gn = ga) := by rintro (e | e); exact h.gna e; exact h.gg e.symm
  refine { h with below := ?_, row := h.row.upd hu hpw (fun g hg => ?_), jw := hj, jn := h.jn.upd0 hu hpn hgn, bo := ?_, bga := ?_, gaw := ?_, gan := ?_, gg := ?_ }
  · exact h.below.trans (hu.below (fun b hb => by rcases hb with e | e; rw [e]; exact h.ba; rw [e]; exact h.bga) hs)
  · rintro (e | e)
    · exact (h.bo g hg).2.1 e
    · exact (h.bo g hg).2.2.2.1 e
  · intro g hg
    have := h.bo g hg
    have l := l0.2 g hg
    exact ⟨this.1, this.2.1, this.2.2.1, by rcases hf with e | e; rw [e]; exact this.2.2.2.1; omega, this.2.2.2.2⟩
  · rcases hf with e | e
    · rw [e]; exact h.bga
    · omega
  · rcases hf with e | e
    · rw [e]; exact h.gaw
    · have := l0.1; omega
  · rcases hf with e | e
    · rw [e]; exact h.gan
    · omega
  · rcases hf with e | e
    · rw [e]; exact h.gg
    · omega

theorem ES.next_turn (h : ES W w pw pa pn ys o wait ga ca cua next gn cn cun) {gn' cn' : Nat} {cun' : Array Value} {next' : List Job} (hj : JAt w' pn gn' next' cn' cun') (hu : Upd (fun b => b = pn ∨ b = gn) w w') (hf : gn' = gn ∨ w.heap.size ≤ gn') :
    ES W w' pw pa pn ys o wait ga ca cua next' gn' cn' cun' := by
  have hs := h.below.size
  have l0 := h.row.blk
  have l1 := h.jw.1.lt; have l3 := h.jw.2.1.lt; have l4 := h.jn.2.1.lt
  have hpw : ¬ (pw = pn ∨ pw = gn) := by rintro (e | e); exact h.wn e; exact h.gnw e.symm
  have hpa : ¬ (pa = pn ∨ pa = gn) := by rintro (e | e); exact h.an e; exact h.gna e.symm
  have hga : ¬ (ga = pn ∨ ga = gn) := by rintro (e | e); exact h.gan e; exact h.gg e
  refine { h with below := ?_, row := h.row.upd hu hpw (fun g hg => ?_), jn := hj, jw := h.jw.upd0 hu hpa hga, bo := ?_, bgn := ?_, gnw := ?_, gna := ?_, gg := ?_ }
  · exact h.below.trans (hu.below (fun b hb => by rcases hb with e | e; rw [e]; exact h.bn; rw [e]; exact h.bgn) hs)
  · rintro (e | e)
    · exact (h.bo g hg).2.2.1 e
    · exact (h.bo g hg).2.2.2.2 e
  · intro g hg
    have := h.bo g hg
    have l := l0.2 g hg
    exact ⟨this.1, this.2.1, this.2.2.1, this.2.2.2.1, by rcases hf with e | e; rw [e]; exact this.2.2.2.2; omega⟩
  · rcases hf with e | e
    · rw [e]; exact h.bgn
    · omega
  · rcases hf with e | e
    · rw [e]; exact h.gnw
    · have := l0.1; omega
  · rcases hf with e | e
    · rw [e]; exact h.gna
    · omega
  · rcases hf with e | e
    · rw [e]; exact h.gg
    · omega

/-- The cells of a job. -/
theorem JAt.cells {w : World} {p g : Nat} {js : List Job} {cap : Nat} {cur : Array Value} (h : JAt w p g js cap cur) {x : Job} {i : Nat} (hx : js[i]? = some x) :
    w.cell? ⟨g, i * 3, none⟩ = some (.int .i64 x.need) ∧ w.cell? ⟨g, i * 3 + 1, none⟩ = some (.int .i64 x.due) ∧ w.cell? ⟨g, i * 3 + 2, none⟩ = some (.int .i64 x.left) := by
  have hi : i < js.length := (List.getElem?_eq_some_iff.1 hx).1
  have he : js[i] = x := (List.getElem?_eq_some_iff.1 hx).2
  obtain ⟨c0, c1, c2⟩ := h.2.2.2.2.2.2.2 i hi
  rw [he] at c0 c1 c2
  exact ⟨h.2.1.cell c0, h.2.1.cell c1, h.2.1.cell c2⟩

/-- A store into the due of a job. -/
theorem JAt.setDue {w : World} {p g : Nat} {js : List Job} {cap : Nat} {cur : Array Value} (h : JAt w p g js cap cur) {x : Job} {i : Nat} (hx : js[i]? = some x) (d : Int) :
    ∃ cur', JAt (w.setCell ⟨g, i * 3 + 1, none⟩ (.int .i64 d)) p g (js.set i ⟨x.need, d, x.left⟩) cap cur' := by
  have hi : i < js.length := (List.getElem?_eq_some_iff.1 hx).1
  have he : js[i] = x := (List.getElem?_eq_some_iff.1 hx).2
  obtain ⟨c0, c1, c2⟩ := h.2.2.2.2.2.2.2 i hi
  rw [he] at c0 c1 c2
  refine ⟨cur.setIfInBounds (i * 3 + 1) (.int .i64 d), ?_, h.2.1.setCell _ _, h.2.2.1, by simpa using h.2.2.2.1, h.2.2.2.2.1, by simpa using h.2.2.2.2.2.1, ?_⟩
  · have := h.1.setCell_ne (a := ⟨g, i * 3 + 1, none⟩) h.2.2.1 (.int .i64 d)
    rw [List.length_set]; exact this
  · have hs := JC_set h.2.2.2.2.2.2 i hi ⟨x.need, d, x.left⟩
    have e : setC cur i ⟨x.need, d, x.left⟩ = cur.setIfInBounds (i * 3 + 1) (.int .i64 d) := by
      have g0 : i * 3 + 2 < cur.size := by have := h.2.2.2.2.2.2.1; omega
      apply Array.ext_getElem?
      intro k
      simp only [setC, Array.getElem?_setIfInBounds, Array.size_setIfInBounds]
      by_cases k0 : i * 3 = k
      · subst k0
        rw [if_neg (by omega), if_neg (by omega), if_pos rfl, if_pos (by omega), if_neg (by omega), c0]
      · by_cases k2 : i * 3 + 2 = k
        · subst k2
          rw [if_pos rfl, if_pos (by omega), if_neg (by omega), c2]
        · rw [if_neg k2]
          by_cases k1 : i * 3 + 1 = k
          · rw [if_pos k1, if_pos k1]
          · rw [if_neg k1, if_neg k1, if_neg k0]
    rw [← e]; exact hs

/-- A store into the left of a job. -/
theorem JAt.setLeft {w : World} {p g : Nat} {js : List Job} {cap : Nat} {cur : Array Value} (h : JAt w p g js cap cur) {x : Job} {i : Nat} (hx : js[i]? = some x) (d : Int) :
    ∃ cur', JAt (w.setCell ⟨g, i * 3 + 2, none⟩ (.int .i64 d)) p g (js.set i ⟨x.need, x.due, d⟩) cap cur' := by
  have hi : i < js.length := (List.getElem?_eq_some_iff.1 hx).1
  have he : js[i] = x := (List.getElem?_eq_some_iff.1 hx).2
  obtain ⟨c0, c1, c2⟩ := h.2.2.2.2.2.2.2 i hi
  rw [he] at c0 c1 c2
  refine ⟨cur.setIfInBounds (i * 3 + 2) (.int .i64 d), ?_, h.2.1.setCell _ _, h.2.2.1, by simpa using h.2.2.2.1, h.2.2.2.2.1, by simpa using h.2.2.2.2.2.1, ?_⟩
  · have := h.1.setCell_ne (a := ⟨g, i * 3 + 2, none⟩) h.2.2.1 (.int .i64 d)
    rw [List.length_set]; exact this
  · have hs := JC_set h.2.2.2.2.2.2 i hi ⟨x.need, x.due, d⟩
    have e : setC cur i ⟨x.need, x.due, d⟩ = cur.setIfInBounds (i * 3 + 2) (.int .i64 d) := by
      have g0 : i * 3 + 2 < cur.size := by have := h.2.2.2.2.2.2.1; omega
      apply Array.ext_getElem?
      intro k
      simp only [setC, Array.getElem?_setIfInBounds, Array.size_setIfInBounds]
      by_cases k2 : i * 3 + 2 = k
      · rw [if_pos k2, if_pos k2]
      · rw [if_neg k2, if_neg k2]
        by_cases k0 : i * 3 = k
        · subst k0
          rw [if_neg (by omega), if_pos rfl, if_pos (by omega), c0]
        · by_cases k1 : i * 3 + 1 = k
          · subst k1
            rw [if_pos rfl, if_pos (by omega), c1]
          · rw [if_neg k1, if_neg k0]
    rw [← e]; exact hs
end
end Go.Proofs.Ytenfikfgliljmaa.LA
