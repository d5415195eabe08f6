/- Stints, and who runs at an offset of a row of them; plain. -/
import Derived.Test.YtenfikfgliljmaaM
namespace Go.Proofs.Ytenfikfgliljmaa.LA
open Go.RowKit

structure Stint where
  subj : Int
  ticks : Int

/-- A slice of stints reads so, from its address on. -/
def StintsAt (w : World) (A : Option Addr) (ys : List Stint) : Prop :=
  ∀ i (h : i < ys.length), ∃ b off, A = some ⟨b, off, none⟩ ∧ w.cell? ⟨b, off + i * 2, none⟩ = some (.int .i64 ys[i].subj) ∧ w.cell? ⟨b, off + i * 2 + 1, none⟩ = some (.int .i64 ys[i].ticks)

theorem StintsAt.below {w w' : World} {A : Option Addr} {ys : List Stint} (h : StintsAt w A ys) (hb : Below w.heap.size w w') : StintsAt w' A ys := by
  intro i hi
  obtain ⟨b, off, rfl, h0, h1⟩ := h i hi
  exact ⟨b, off, rfl, (hb.cell (World.block_lt_of_cell? w _ h0)).trans h0, (hb.cell (World.block_lt_of_cell? w _ h1)).trans h1⟩

def StintsOk (ys : List Stint) : Prop := ∀ x, x ∈ ys → -9223372036854775808 ≤ x.subj ∧ x.subj ≤ 9223372036854775807 ∧ -9223372036854775808 ≤ x.ticks ∧ x.ticks ≤ 9223372036854775807

/-- What is known: where the next stint begins, who runs at the offset, for how long so far. -/
structure Know where
  e : Int
  who : Int
  left : Int

/-- A stint is taken; false: all is known. -/
def takeL (M o : Int) (q : Know) (s t : Int) : Know × Bool :=
  let e' := q.e + min t (M - q.e)
  let s' := max s (-1)
  if e' ≤ o then (⟨e', q.who, q.left⟩, decide (e' < M))
  else if q.left = 0 then (⟨e', s', e' - max q.e o⟩, decide (e' < M))
  else if s' = q.who then (⟨e', q.who, q.left + (e' - q.e)⟩, decide (e' < M))
  else (⟨e', q.who, q.left⟩, false)

/-- The five variables that At's closure shares with At. -/
structure AtVars (w : World) (pe pm po pl pw : Nat) (M o : Int) (q : Know) : Prop where
  re : Row w pe 3 #[.int .i64 q.e]
  rm : Row w pm 3 #[.int .i64 M]
  ro : Row w po 3 #[.int .i64 o]
  rl : Row w pl 3 #[.int .i64 q.left]
  rw : Row w pw 3 #[.int .i64 q.who]

/-- They are five. -/
structure Five (pe pm po pl pw : Nat) : Prop where
  em : pe ≠ pm
  eo : pe ≠ po
  el : pe ≠ pl
  ew : pe ≠ pw
  mo : pm ≠ po
  ml : pm ≠ pl
  mw : pm ≠ pw
  ol : po ≠ pl
  ow : po ≠ pw
  lw : pl ≠ pw

theorem AtVars.upd {w w' : World} {pe pm po pl pw : Nat} {M o : Int} {q : Know} {S : Nat → Prop} (h : AtVars w pe pm po pl pw M o q) (hu : Upd S w w') (h1 : ¬ S pe) (h2 : ¬ S pm) (h3 : ¬ S po) (h4 : ¬ S pl) (h5 : ¬ S pw) : AtVars w' pe pm po pl pw M o q :=
  ⟨hu.row h.re h1, hu.row h.rm h2, hu.row h.ro h3, hu.row h.rl h4, hu.row h.rw h5⟩
theorem AtVars.setE {w : World} {pe pm po pl pw : Nat} {M o : Int} {q : Know} (h : AtVars w pe pm po pl pw M o q) (F : Five pe pm po pl pw) (v : Int) : AtVars (w.setCell ⟨pe, 0, none⟩ (.int .i64 v)) pe pm po pl pw M o ⟨v, q.who, q.left⟩ :=
  ⟨h.re.setCell 0 _, h.rm.setCell_ne F.em _, h.ro.setCell_ne F.eo _, h.rl.setCell_ne F.el _, h.rw.setCell_ne F.ew _⟩
theorem AtVars.setL {w : World} {pe pm po pl pw : Nat} {M o : Int} {q : Know} (h : AtVars w pe pm po pl pw M o q) (F : Five pe pm po pl pw) (v : Int) : AtVars (w.setCell ⟨pl, 0, none⟩ (.int .i64 v)) pe pm po pl pw M o ⟨q.e, q.who, v⟩ :=
  ⟨h.re.setCell_ne F.el.symm _, h.rm.setCell_ne F.ml.symm _, h.ro.setCell_ne F.ol.symm _, h.rl.setCell 0 _, h.rw.setCell_ne F.lw _⟩
theorem AtVars.setW {w : World} {pe pm po pl pw : Nat} {M o : Int} {q : Know} (h : AtVars w pe pm po pl pw M o q) (F : Five pe pm po pl pw) (v : Int) : AtVars (w.setCell ⟨pw, 0, none⟩ (.int .i64 v)) pe pm po pl pw M o ⟨q.e, v, q.left⟩ :=
  ⟨h.re.setCell_ne F.ew.symm _, h.rm.setCell_ne F.mw.symm _, h.ro.setCell_ne F.ow.symm _, h.rl.setCell_ne F.lw.symm _, h.rw.setCell 0 _⟩
theorem AtVars.drew {w : World} {pe pm po pl pw : Nat} {M o : Int} {q : Know} (h : AtVars w pe pm po pl pw M o q) : AtVars w.drew pe pm po pl pw M o q := ⟨h.re, h.rm, h.ro, h.rl, h.rw⟩
end Go.Proofs.Ytenfikfgliljmaa.LA
