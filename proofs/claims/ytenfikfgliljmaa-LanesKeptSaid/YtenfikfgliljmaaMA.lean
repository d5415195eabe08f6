/- Plain laws on memory: jobs, slots, runs, stints in memory; a copy of wide elements. -/
import Derived.WalkKit
import Derived.RowKit3
import Derived.Deep.Draws
import Derived.Below
import Derived.IntWalk
import Derived.Deep.AppendLies
import Derived.Laws.CopyOwn
import Derived.Laws.MakeOwn
/- Plain laws on the model's memory, for the walks of package lanes: no program is in sight. -/
namespace Go.Proofs.Ytenfikfgliljmaa.LA
open Go.RowKit
theorem hide {p : Prop} (h : p) : Hid p := h

/-- Block g is a row of cells of type t. -/
def Row (w : World) (g t : Nat) (cur : Array Value) : Prop := w.heap[g]? = some (.cells cur t (0, 0))

/-- Of what was there only the blocks of S may have turned. -/
structure Upd (S : Nat → Prop) (w w' : World) : Prop where
  os : w'.os = w.os
  tape : w'.tape = w.tape
  output : w'.output = w.output
  size : w.heap.size ≤ w'.heap.size
  block : ∀ k, k < w.heap.size → ¬ S k → w'.heap[k]? = w.heap[k]?

namespace Upd
variable {S T : Nat → Prop} {w w' w1 w2 : World}
theorem refl (S : Nat → Prop) (w : World) : Upd S w w := ⟨rfl, rfl, rfl, Nat.le_refl _, fun _ _ _ => rfl⟩
/-- Two steps; what the second may turn the first may, or it is new. -/
theorem trans (h : Upd S w w1) (k : Upd T w1 w2) (hT : ∀ b, T b → S b ∨ w.heap.size ≤ b) : Upd S w w2 :=
  ⟨k.os.trans h.os, k.tape.trans h.tape, k.output.trans h.output, Nat.le_trans h.size k.size,
   fun b hb hs => (k.block b (Nat.lt_of_lt_of_le hb h.size) (fun ht => by rcases hT b ht with h1 | h1; exact hs h1; omega)).trans (h.block b hb hs)⟩
theorem mono (h : Upd S w w1) (hST : ∀ b, S b → b < w.heap.size → T b) : Upd T w w1 :=
  ⟨h.os, h.tape, h.output, h.size, fun b hb ht => h.block b hb (fun hs => ht (hST b hs hb))⟩
theorem drewN (w : World) (n : Nat) : Upd S w (w.drewN n) := ⟨rfl, rfl, rfl, Nat.le_refl _, fun _ _ _ => rfl⟩
theorem drew (w : World) : Upd S w w.drew := ⟨rfl, rfl, rfl, Nat.le_refl _, fun _ _ _ => rfl⟩
theorem alloc (w : World) (o : Obj) : Upd S w (w.alloc o) := ⟨rfl, rfl, rfl, by simp, fun b hb _ => Below.heap_alloc w o b hb⟩
theorem setCell (w : World) (a : Addr) (v : Value) (hS : S a.block) : Upd S w (w.setCell a v) :=
  ⟨rfl, rfl, rfl, by simp, fun b _ hs => Below.heap_setCell w a v b (fun e => hs (e ▸ hS))⟩
theorem of_below {B : Nat} (h : Below B w w') (hS : ∀ b, B ≤ b → b < w.heap.size → S b) : Upd S w w' :=
  ⟨h.os, h.tape, h.output, h.size, fun b hb hs => h.block b (Nat.lt_of_not_le fun e => hs (hS b e hb))⟩
theorem of_grownBy {row : Option Nat} (h : w.grownBy w' row) (hS : ∀ b, row = some b → S b) : Upd S w w' :=
  ⟨h.os, h.tape, h.output, h.size, fun b hb hs => h.block b hb (fun e => hs (hS b e.symm))⟩
/-- All that may have turned is new since W. -/
theorem below {B : Nat} (h : Upd S w w') (hS : ∀ b, S b → B ≤ b) (hB : B ≤ w.heap.size) : Below B w w' :=
  ⟨h.os, h.tape, h.output, h.size, fun b hb => h.block b (by omega) (fun hs => by have := hS b hs; omega)⟩
theorem cell (h : Upd S w w') {a : Addr} {v : Value} (hc : w.cell? a = some v) (hs : ¬ S a.block) : w'.cell? a = some v :=
  (World.cell?_of_block (h.block a.block (World.block_lt_of_cell? w a hc) hs)).trans hc
theorem row (h : Upd S w w') {g t : Nat} {cur : Array Value} (hr : Row w g t cur) (hs : ¬ S g) : Row w' g t cur :=
  (h.block g (Array.getElem?_eq_some_iff.1 hr).1 hs).trans hr
end Upd

namespace Row
variable {w w' : World} {g t : Nat} {cur : Array Value}
theorem lt (h : Row w g t cur) : g < w.heap.size := (Array.getElem?_eq_some_iff.1 h).1
theorem cell (h : Row w g t cur) {o : Nat} {v : Value} (hv : cur[o]? = some v) : w.cell? ⟨g, o, none⟩ = some v := by
  simp only [Row] at h
  simp [World.cell?, h, hv]
theorem frozen (h : Row w g t cur) (o : Nat) : w.frozen? ⟨g, o, none⟩ = false := frozen_of_row w g o cur t h
theorem drewN (h : Row w g t cur) (n : Nat) : Row (w.drewN n) g t cur := h
theorem drew (h : Row w g t cur) : Row w.drew g t cur := h
theorem alloc_new (w : World) (cur : Array Value) (t : Nat) : Row (w.alloc (.cells cur t)) w.heap.size t cur := heap_alloc_new w _
theorem alloc (h : Row w g t cur) (o : Obj) : Row (w.alloc o) g t cur := (Below.heap_alloc w o g h.lt).trans h
theorem setCell (h : Row w g t cur) (o : Nat) (v : Value) : Row (w.setCell ⟨g, o, none⟩ v) g t (cur.setIfInBounds o v) := heap_setCell_same w g o cur t v h
theorem setCell_ne (h : Row w g t cur) {a : Addr} (ha : a.block ≠ g) (v : Value) : Row (w.setCell a v) g t cur := (Below.heap_setCell w a v g (fun e => ha e.symm)).trans h
/-- One store into the row, as the walk meets it. -/
theorem store (P : Program) (h : Row w g t cur) {o : Nat} (ho : o < cur.size) {v : Value} (hv : v.oneCell' = true) :
    ∃ w', (Go.store ⟨g, o, none⟩ v).run P w = .ok () w' ∧ Row w' g t (cur.setIfInBounds o v) ∧ Upd (· = g) w w' := by
  refine ⟨w.setCell ⟨g, o, none⟩ v, ?_, h.setCell o v, Upd.setCell _ _ _ rfl⟩
  rw [run_store _ _ _ _ _ hv, h.cell (o := o) (v := cur[o]) (by simp [ho])]
  simp [h.frozen o]
end Row
end Go.Proofs.Ytenfikfgliljmaa.LA
/- Jobs in memory: a pointer to a slice header, and the row behind it; plain, no program in sight. -/
namespace Go.Proofs.Ytenfikfgliljmaa.LA
open Go.RowKit

structure Job where
  need : Int
  due : Int
  left : Int
deriving DecidableEq

def Job.zero : Job := ⟨0, 0, 0⟩
def Job.cells (x : Job) : List Value := [.int .i64 x.need, .int .i64 x.due, .int .i64 x.left]
def Job.agg (x : Job) : Value := .agg #[.int .i64 x.need, .int .i64 x.due, .int .i64 x.left]
def flat (l : List Job) : List Value := l.flatMap Job.cells

/-- The cells of a row hold the jobs, from the first on. -/
def JC (cur : Array Value) (js : List Job) : Prop :=
  js.length * 3 ≤ cur.size ∧ ∀ i (h : i < js.length), cur[i * 3]? = some (.int .i64 js[i].need) ∧ cur[i * 3 + 1]? = some (.int .i64 js[i].due) ∧ cur[i * 3 + 2]? = some (.int .i64 js[i].left)

theorem flat_length (l : List Job) : (flat l).length = l.length * 3 := by
  induction l with
  | nil => rfl
  | cons x l ih => simp only [flat, List.flatMap_cons, List.length_append, List.length_cons] at ih ⊢; rw [ih]; simp [Job.cells]; omega

theorem flat_get : ∀ (l : List Job) (i : Nat) (h : i < l.length), (flat l)[i * 3]? = some (.int .i64 l[i].need) ∧ (flat l)[i * 3 + 1]? = some (.int .i64 l[i].due) ∧ (flat l)[i * 3 + 2]? = some (.int .i64 l[i].left)
  | x :: l, 0, _ => by simp [flat, Job.cells]
  | x :: l, i + 1, h => by
    have ih := flat_get l i (by simpa using h)
    have e : flat (x :: l) = Job.cells x ++ flat l := rfl
    have hl : (Job.cells x).length = 3 := rfl
    rw [e]
    refine ⟨?_, ?_, ?_⟩
    · rw [List.getElem?_append_right (by rw [hl]; omega), hl, show (i + 1) * 3 - 3 = i * 3 by omega]; exact ih.1
    · rw [List.getElem?_append_right (by rw [hl]; omega), hl, show (i + 1) * 3 + 1 - 3 = i * 3 + 1 by omega]; exact ih.2.1
    · rw [List.getElem?_append_right (by rw [hl]; omega), hl, show (i + 1) * 3 + 2 - 3 = i * 3 + 2 by omega]; exact ih.2.2

theorem flat_append (l m : List Job) : flat (l ++ m) = flat l ++ flat m := by simp [flat]

theorem JC_of_take {cur : Array Value} {js : List Job} (h : cur.toList.take (js.length * 3) = flat js) : JC cur js := by
  have hl : js.length * 3 ≤ cur.size := by
    have := congrArg List.length h
    rw [flat_length, List.length_take] at this
    have h2 : cur.toList.length = cur.size := Array.length_toList
    omega
  have key : ∀ o, o < js.length * 3 → cur[o]? = (flat js)[o]? := fun o ho => by
    rw [← h, List.getElem?_take, if_pos ho]; simp
  refine ⟨hl, fun i hi => ?_⟩
  have := flat_get js i hi
  rw [key _ (by omega), key _ (by omega), key _ (by omega)]
  exact this

theorem take_of_JC {cur : Array Value} {js : List Job} (h : JC cur js) : cur.toList.take (js.length * 3) = flat js := by
  apply List.ext_getElem?
  intro o
  by_cases ho : o < js.length * 3
  · rw [List.getElem?_take, if_pos ho]
    have hi : o / 3 < js.length := by omega
    have h1 := h.2 (o / 3) hi
    have h2 := flat_get js (o / 3) hi
    have h3 : o % 3 = 0 ∨ o % 3 = 1 ∨ o % 3 = 2 := by omega
    rcases h3 with h3 | h3 | h3
    · rw [show o = o / 3 * 3 by omega, h2.1, ← h1.1]; simp
    · rw [show o = o / 3 * 3 + 1 by omega, h2.2.1, ← h1.2.1]; simp
    · rw [show o = o / 3 * 3 + 2 by omega, h2.2.2, ← h1.2.2]; simp
  · rw [List.getElem?_take, if_neg ho, List.getElem?_eq_none (by rw [flat_length]; omega)]

/-- The slice of jobs behind the pointer p lies in the row g. -/
def JAt (w : World) (p g : Nat) (js : List Job) (cap : Nat) (cur : Array Value) : Prop :=
  Row w p 93 #[.slice (some ⟨g, 0, none⟩) js.length cap] ∧ Row w g 96 cur ∧ g ≠ p ∧ js.length ≤ cap ∧ cap ≤ maxLen ∧ cur.size = cap * 3 ∧ JC cur js

theorem JAt.owns {w : World} {p g : Nat} {js : List Job} {cap : Nat} {cur : Array Value} (h : JAt w p g js cap cur) (base : Nat) (hb : base ≤ g) :
    w.ownsRow base 96 3 (.slice (some ⟨g, 0, none⟩) js.length cap) js.length (flat js) :=
  ⟨flat_length js, .inr ⟨g, cap, cur, rfl, hb, h.2.1, h.2.2.2.1, h.2.2.2.2.1, h.2.2.2.2.2.1, take_of_JC h.2.2.2.2.2.2⟩⟩

/-- An exchange. -/
def swapL (l : List Job) (i j : Nat) : List Job := (l.set i (l.getD j .zero)).set j (l.getD i .zero)
theorem swapL_length (l : List Job) (i j : Nat) : (swapL l i j).length = l.length := by simp [swapL]

/-- The cells behind an exchange of the jobs i and j. -/
def swapC (cur : Array Value) (x y : Job) (i j : Nat) : Array Value :=
  (((((cur.setIfInBounds (i * 3) (.int .i64 y.need)).setIfInBounds (i * 3 + 1) (.int .i64 y.due)).setIfInBounds (i * 3 + 2) (.int .i64 y.left)).setIfInBounds
    (j * 3) (.int .i64 x.need)).setIfInBounds (j * 3 + 1) (.int .i64 x.due)).setIfInBounds (j * 3 + 2) (.int .i64 x.left)

/-- The cells of job k are set. -/
def setC (cur : Array Value) (k : Nat) (x : Job) : Array Value :=
  ((cur.setIfInBounds (k * 3) (.int .i64 x.need)).setIfInBounds (k * 3 + 1) (.int .i64 x.due)).setIfInBounds (k * 3 + 2) (.int .i64 x.left)

theorem swapC_eq (cur : Array Value) (x y : Job) (i j : Nat) : swapC cur x y i j = setC (setC cur i y) j x := rfl

theorem setC_size (cur : Array Value) (k : Nat) (x : Job) : (setC cur k x).size = cur.size := by simp [setC]

theorem JC_set {cur : Array Value} {js : List Job} (h : JC cur js) (k : Nat) (hk : k < js.length) (x : Job) : JC (setC cur k x) (js.set k x) := by
  have h0 := h.1
  refine ⟨by rw [setC_size]; simpa using h.1, fun i hi => ?_⟩
  have hi' : i < js.length := by simpa using hi
  have hc := h.2 i hi'
  simp only [setC, Array.getElem?_setIfInBounds]
  by_cases e : i = k
  · subst e
    simp only [List.getElem_set_self]
    refine ⟨?_, ?_, ?_⟩
    · rw [if_neg (by omega), if_neg (by omega), if_pos trivial, if_pos (by omega)]
    · rw [if_neg (by omega), if_pos trivial, if_pos (by simp; omega)]
    · rw [if_pos trivial, if_pos (by simp; omega)]
  · rw [List.getElem_set_ne (Ne.symm e)]
    refine ⟨?_, ?_, ?_⟩
    · rw [if_neg (by omega), if_neg (by omega), if_neg (by omega)]; exact hc.1
    · rw [if_neg (by omega), if_neg (by omega), if_neg (by omega)]; exact hc.2.1
    · rw [if_neg (by omega), if_neg (by omega), if_neg (by omega)]; exact hc.2.2

theorem JC_swap {cur : Array Value} {js : List Job} (h : JC cur js) (i j : Nat) (hi : i < js.length) (hj : j < js.length) : JC (swapC cur js[i] js[j] i j) (swapL js i j) := by
  rw [swapC_eq]
  have h1 := JC_set h i hi js[j]
  have h2 := JC_set h1 j (by simpa using hj) js[i]
  have e : swapL js i j = (js.set i js[j]).set j js[i] := by simp [swapL, List.getD, hi, hj]
  rw [e]; exact h2
end Go.Proofs.Ytenfikfgliljmaa.LA
/- Slots in memory, plain. -/
namespace Go.Proofs.Ytenfikfgliljmaa.LA
open Go.RowKit

structure Slot where
  subj : ByteArray
  lo : Int
  hi : Int

def Slot.zero : Slot := ⟨ByteArray.empty, 0, 0⟩
def Slot.cells (x : Slot) : List Value := [.string x.subj, .int .i64 x.lo, .int .i64 x.hi]
def sflat (l : List Slot) : List Value := l.flatMap Slot.cells

/-- The cells of a row hold the slots, from the first on. -/
def SC (cur : Array Value) (ys : List Slot) : Prop :=
  ys.length * 3 ≤ cur.size ∧ ∀ i (h : i < ys.length), cur[i * 3]? = some (.string ys[i].subj) ∧ cur[i * 3 + 1]? = some (.int .i64 ys[i].lo) ∧ cur[i * 3 + 2]? = some (.int .i64 ys[i].hi)

theorem sflat_length (l : List Slot) : (sflat l).length = l.length * 3 := by
  induction l with
  | nil => rfl
  | cons x l ih => simp only [sflat, List.flatMap_cons, List.length_append, List.length_cons] at ih ⊢; rw [ih]; simp [Slot.cells]; omega

theorem sflat_get : ∀ (l : List Slot) (i : Nat) (h : i < l.length), (sflat l)[i * 3]? = some (.string l[i].subj) ∧ (sflat l)[i * 3 + 1]? = some (.int .i64 l[i].lo) ∧ (sflat l)[i * 3 + 2]? = some (.int .i64 l[i].hi)
  | x :: l, 0, _ => by simp [sflat, Slot.cells]
  | x :: l, i + 1, h => by
    have ih := sflat_get l i (by simpa using h)
    have e : sflat (x :: l) = Slot.cells x ++ sflat l := rfl
    have hl : (Slot.cells x).length = 3 := rfl
    rw [e]
    refine ⟨?_, ?_, ?_⟩
    · rw [List.getElem?_append_right (by rw [hl]; omega), hl, show (i + 1) * 3 - 3 = i * 3 by omega]; exact ih.1
    · rw [List.getElem?_append_right (by rw [hl]; omega), hl, show (i + 1) * 3 + 1 - 3 = i * 3 + 1 by omega]; exact ih.2.1
    · rw [List.getElem?_append_right (by rw [hl]; omega), hl, show (i + 1) * 3 + 2 - 3 = i * 3 + 2 by omega]; exact ih.2.2

theorem sflat_append (l m : List Slot) : sflat (l ++ m) = sflat l ++ sflat m := by simp [sflat]

theorem SC_of_take {cur : Array Value} {ys : List Slot} (h : cur.toList.take (ys.length * 3) = sflat ys) : SC cur ys := by
  have hl : ys.length * 3 ≤ cur.size := by
    have := congrArg List.length h
    rw [sflat_length, List.length_take] at this
    have h2 : cur.toList.length = cur.size := Array.length_toList
    omega
  have key : ∀ o, o < ys.length * 3 → cur[o]? = (sflat ys)[o]? := fun o ho => by
    rw [← h, List.getElem?_take, if_pos ho]; simp
  refine ⟨hl, fun i hi => ?_⟩
  have := sflat_get ys i hi
  rw [key _ (by omega), key _ (by omega), key _ (by omega)]
  exact this

theorem take_of_SC {cur : Array Value} {ys : List Slot} (h : SC cur ys) : cur.toList.take (ys.length * 3) = sflat ys := by
  apply List.ext_getElem?
  intro o
  by_cases ho : o < ys.length * 3
  · rw [List.getElem?_take, if_pos ho]
    have hi : o / 3 < ys.length := by omega
    have h1 := h.2 (o / 3) hi
    have h2 := sflat_get ys (o / 3) hi
    have h3 : o % 3 = 0 ∨ o % 3 = 1 ∨ o % 3 = 2 := by omega
    rcases h3 with h3 | h3 | h3
    · rw [show o = o / 3 * 3 by omega, h2.1, ← h1.1]; simp
    · rw [show o = o / 3 * 3 + 1 by omega, h2.2.1, ← h1.2.1]; simp
    · rw [show o = o / 3 * 3 + 2 by omega, h2.2.2, ← h1.2.2]; simp
  · rw [List.getElem?_take, if_neg ho, List.getElem?_eq_none (by rw [sflat_length]; omega)]

/-- A row of slots of the call's own. -/
def SRow (w : World) (g : Nat) (ys : List Slot) (cap : Nat) (cur : Array Value) : Prop :=
  Row w g 33 cur ∧ ys.length ≤ cap ∧ cap ≤ maxLen ∧ cur.size = cap * 3 ∧ SC cur ys

theorem SRow.owns {w : World} {g : Nat} {ys : List Slot} {cap : Nat} {cur : Array Value} (h : SRow w g ys cap cur) :
    w.ownsRow 0 33 3 (.slice (some ⟨g, 0, none⟩) ys.length cap) ys.length (sflat ys) :=
  ⟨sflat_length ys, .inr ⟨g, cap, cur, rfl, Nat.zero_le _, h.1, h.2.1, h.2.2.1, h.2.2.2.1, take_of_SC h.2.2.2.2⟩⟩

theorem SRow_of_owns {w : World} {base g n cap : Nat} {ys : List Slot} (h : w.ownsRow base 33 3 (.slice (some ⟨g, 0, none⟩) n cap) n (sflat ys)) (hn : n = ys.length) (h0 : 0 < n) :
    ∃ cur, SRow w g ys cap cur := by
  subst hn
  rcases h.2 with ⟨_, h1⟩ | ⟨g', cap', cur, hv, _, hg, h2, h3, h4, h5⟩
  · omega
  · obtain ⟨rfl, rfl⟩ : g' = g ∧ cap' = cap := by simpa using hv.symm
    exact ⟨cur, hg, h2, h3, h4, SC_of_take h5⟩

/-- A row of slots that grows behind the pointer p: none yet, or the row g. -/
def WAt (w : World) (p : Nat) (o : Option Nat) (ys : List Slot) : Prop :=
  match o with
  | none => ys = [] ∧ Row w p 74 #[.slice none 0 0]
  | some g => 0 < ys.length ∧ ∃ cap cur, Row w p 74 #[.slice (some ⟨g, 0, none⟩) ys.length cap] ∧ SRow w g ys cap cur ∧ g ≠ p

theorem WAt.upd {w w' : World} {p : Nat} {o : Option Nat} {ys : List Slot} {S : Nat → Prop} (h : WAt w p o ys) (hu : Upd S w w') (hp : ¬ S p) (ho : ∀ g, o = some g → ¬ S g) : WAt w' p o ys := by
  cases o with
  | none => exact ⟨h.1, hu.row h.2 hp⟩
  | some g =>
    obtain ⟨h0, cap, cur, hr, hs, hne⟩ := h
    exact ⟨h0, cap, cur, hu.row hr hp, ⟨hu.row hs.1 (ho g rfl), hs.2⟩, hne⟩

/-- The end of a row. -/
def endL (ys : List Slot) : Int := (ys.getLast?.getD .zero).hi
/-- So many ticks of a subject more. -/
def runL (ys : List Slot) (s : ByteArray) (t : Int) : List Slot :=
  match ys.getLast? with
  | none => [⟨s, 0, t⟩]
  | some y => if y.subj.toList == s.toList then ys.dropLast ++ [⟨y.subj, y.lo, y.hi + t⟩] else ys ++ [⟨s, y.hi, y.hi + t⟩]

theorem SC_setHi {cur : Array Value} {zs : List Slot} {y : Slot} (h : SC cur (zs ++ [y])) (t : Int) : SC (cur.setIfInBounds (zs.length * 3 + 2) (.int .i64 t)) (zs ++ [⟨y.subj, y.lo, t⟩]) := by
  have h0 := h.1
  simp only [List.length_append, List.length_singleton] at h0
  refine ⟨by simp; omega, fun i hi => ?_⟩
  simp only [List.length_append, List.length_singleton] at hi
  have hc := h.2 i (by simp; omega)
  simp only [Array.getElem?_setIfInBounds]
  by_cases e : i = zs.length
  · subst e
    rw [List.getElem_concat_length rfl] at hc ⊢
    refine ⟨?_, ?_, ?_⟩
    · rw [if_neg (by omega)]; exact hc.1
    · rw [if_neg (by omega)]; exact hc.2.1
    · rw [if_pos rfl, if_pos (by omega)]
  · rw [List.getElem_append_left (by omega)] at hc ⊢
    refine ⟨?_, ?_, ?_⟩
    · rw [if_neg (by omega)]; exact hc.1
    · rw [if_neg (by omega)]; exact hc.2.1
    · rw [if_neg (by omega)]; exact hc.2.2
end Go.Proofs.Ytenfikfgliljmaa.LA
/- The memory of lanes.earliest: a row that grows, two heaps; plain. -/
namespace Go.Proofs.Ytenfikfgliljmaa.LA
open Go.RowKit

/-- A run, an idle, a need. -/
structure Need where
  pos : Int
  subj : ByteArray
  budget : Int
  period : Int

def Need.zero : Need := ⟨0, ByteArray.empty, 0, 0⟩

/-- A slice of runs reads so, from its address on. -/
def RunsAt (w : World) (A : Option Addr) (xs : List Need) : Prop :=
  ∀ i (h : i < xs.length), ∃ b off, A = some ⟨b, off, none⟩ ∧ w.cell? ⟨b, off + i * 4, none⟩ = some (.int .i64 xs[i].pos) ∧ w.cell? ⟨b, off + i * 4 + 1, none⟩ = some (.string xs[i].subj) ∧
    w.cell? ⟨b, off + i * 4 + 2, none⟩ = some (.int .u64 xs[i].budget) ∧ w.cell? ⟨b, off + i * 4 + 3, none⟩ = some (.int .u64 xs[i].period)

theorem RunsAt.below {w w' : World} {A : Option Addr} {xs : List Need} (h : RunsAt w A xs) (hb : Below w.heap.size w w') : RunsAt w' A xs := by
  intro i hi
  obtain ⟨b, off, rfl, h0, h1, h2, h3⟩ := h i hi
  exact ⟨b, off, rfl, (hb.cell (World.block_lt_of_cell? w _ h0)).trans h0, (hb.cell (World.block_lt_of_cell? w _ h1)).trans h1, (hb.cell (World.block_lt_of_cell? w _ h2)).trans h2, (hb.cell (World.block_lt_of_cell? w _ h3)).trans h3⟩

/-- What lanes.earliest holds: the row behind pw, the jobs that wait behind pa, what is released next behind pn; all its own, from block B on. -/
structure ES (W : World) (w : World) (pw pa pn : Nat) (ys : List Slot) (o : Option Nat) (wait : List Job) (ga ca : Nat) (cua : Array Value) (next : List Job) (gn cn : Nat) (cun : Array Value) : Prop where
  below : Below W.heap.size W w
  row : WAt w pw o ys
  jw : JAt w pa ga wait ca cua
  jn : JAt w pn gn next cn cun
  bw : W.heap.size ≤ pw
  ba : W.heap.size ≤ pa
  bn : W.heap.size ≤ pn
  bo : ∀ g, o = some g → W.heap.size ≤ g ∧ g ≠ pa ∧ g ≠ pn ∧ g ≠ ga ∧ g ≠ gn
  bga : W.heap.size ≤ ga
  bgn : W.heap.size ≤ gn
  wa : pw ≠ pa
  wn : pw ≠ pn
  an : pa ≠ pn
  gaw : ga ≠ pw
  gan : ga ≠ pn
  gnw : gn ≠ pw
  gna : gn ≠ pa
  gg : ga ≠ gn

theorem JAt.upd0 {w w' : World} {p g : Nat} {js : List Job} {cap : Nat} {cur : Array Value} {S : Nat → Prop} (h : JAt w p g js cap cur) (hu : Upd S w w') (hp : ¬ S p) (hg : ¬ S g) : JAt w' p g js cap cur :=
  ⟨hu.row h.1 hp, hu.row h.2.1 hg, h.2.2⟩

section
variable {W w w' : World} {pw pa pn ga ca gn cn : Nat} {ys : List Slot} {o : Option Nat} {wait next : List Job} {cua cun : Array Value}

theorem WAt.blk {w : World} {p : Nat} {o : Option Nat} {ys : List Slot} (h : WAt w p o ys) : p < w.heap.size ∧ ∀ g, o = some g → g < w.heap.size := by
  cases o with
  | none => exact ⟨h.2.lt, fun g e => by cases e⟩
  | some g => obtain ⟨_, cap, cur, hr, hs, _⟩ := h; exact ⟨hr.lt, fun g' e => by cases e; exact hs.1.lt⟩

/-- Nothing of it is turned: a new block, a draw. -/
theorem ES.idle (h : ES W w pw pa pn ys o wait ga ca cua next gn cn cun) (hu : Upd (fun _ => False) w w') : ES W w' pw pa pn ys o wait ga ca cua next gn cn cun :=
  { h with
    below := h.below.trans (hu.below (fun _ h => h.elim) h.below.size)
    row := h.row.upd hu (fun h => h) (fun _ _ h => h)
    jw := h.jw.upd0 hu (fun h => h) (fun h => h)
    jn := h.jn.upd0 hu (fun h => h) (fun h => h) }

theorem ES.row_run (h : ES W w pw pa pn ys o wait ga ca cua next gn cn cun) {o' : Option Nat} {ys' : List Slot} (hr : WAt w' pw o' ys') (hu : Upd (fun b => b = pw ∨ some b = o) w w') (hf : o' = o ∨ ∃ g, o' = some g ∧ w.heap.size ≤ g) :
    ES W w' pw pa pn ys' o' wait ga ca cua next gn cn cun := by
  have hs := h.below.size
  have hpa : ¬ (pa = pw ∨ some pa = o) := by rintro (e | e); exact h.wa e.symm; exact (h.bo pa e.symm).2.1 rfl
  have hpn : ¬ (pn = pw ∨ some pn = o) := by rintro (e | e); exact h.wn e.symm; exact (h.bo pn e.symm).2.2.1 rfl
  have hga : ¬ (ga = pw ∨ some ga = o) := by rintro (e | e); exact h.gaw e; exact (h.bo ga e.symm).2.2.2.1 rfl
  have hgn : ¬ (gn = pw ∨ some gn = o) := by rintro (e | e); exact h.gnw e; exact (h.bo gn e.symm).2.2.2.2 rfl
  refine { h with below := ?_, row := hr, jw := h.jw.upd0 hu hpa hga, jn := h.jn.upd0 hu hpn hgn, bo := ?_ }
  · exact h.below.trans (hu.below (fun b hb => by rcases hb with e | e; rw [e]; exact h.bw; exact (h.bo b e.symm).1) hs)
  · intro g hg
    rcases hf with e | ⟨g', e, hlt⟩
    · exact h.bo g (by rw [← e]; exact hg)
    · rw [e] at hg
      cases hg
      have l1 := h.jw.1.lt; have l2 := h.jn.1.lt; have l3 := h.jw.2.1.lt; have l4 := h.jn.2.1.lt
      exact ⟨by omega, by omega, by omega, by omega, by omega⟩

theorem ES.wait_turn (h : ES W w pw pa pn ys o wait ga ca cua next gn cn cun) {ga' ca' : Nat} {cua' : Array Value} {wait' : List Job} (hj : JAt w' pa ga' wait' ca' cua') (hu : Upd (fun b => b = pa ∨ b = ga) w w') (hf : ga' = ga ∨ w.heap.size ≤ ga') :
    ES W w' pw pa pn ys o wait' ga' ca' cua' next gn cn cun := by
  have hs := h.below.size
  have l0 := h.row.blk
  have l2 := h.jn.1.lt; have l3 := h.jw.2.1.lt; have l4 := h.jn.2.1.lt
  have hpw : ¬ (pw = pa ∨ pw = ga) := by rintro (e | e); exact h.wa e; exact h.gaw e.symm
  have hpn : ¬ (pn = pa ∨ pn = ga) := by rintro (e | e); exact h.an e.symm; exact h.gan e.symm
  have hgn : ¬ (gn = pa ∨ gn = ga) := by rintro (e | e); exact h.gna e; exact h.gg e.symm
  refine { h with below := ?_, row := h.row.upd hu hpw (fun g hg => ?_), jw := hj, jn := h.jn.upd0 hu hpn hgn, bo := ?_, bga := ?_, gaw := ?_, gan := ?_, gg := ?_ }
  · exact h.below.trans (hu.below (fun b hb => by rcases hb with e | e; rw [e]; exact h.ba; rw [e]; exact h.bga) hs)
  · rintro (e | e)
    · exact (h.bo g hg).2.1 e
    · exact (h.bo g hg).2.2.2.1 e
  · intro g hg
    have := h.bo g hg
    have l := l0.2 g hg
    exact ⟨this.1, this.2.1, this.2.2.1, by rcases hf with e | e; rw [e]; exact this.2.2.2.1; omega, this.2.2.2.2⟩
  · rcases hf with e | e
    · rw [e]; exact h.bga
    · omega
  · rcases hf with e | e
    · rw [e]; exact h.gaw
    · have := l0.1; omega
  · rcases hf with e | e
    · rw [e]; exact h.gan
    · omega
  · rcases hf with e | e
    · rw [e]; exact h.gg
    · omega

theorem ES.next_turn (h : ES W w pw pa pn ys o wait ga ca cua next gn cn cun) {gn' cn' : Nat} {cun' : Array Value} {next' : List Job} (hj : JAt w' pn gn' next' cn' cun') (hu : Upd (fun b => b = pn ∨ b = gn) w w') (hf : gn' = gn ∨ w.heap.size ≤ gn') :
    ES W w' pw pa pn ys o wait ga ca cua next' gn' cn' cun' := by
  have hs := h.below.size
  have l0 := h.row.blk
  have l1 := h.jw.1.lt; have l3 := h.jw.2.1.lt; have l4 := h.jn.2.1.lt
  have hpw : ¬ (pw = pn ∨ pw = gn) := by rintro (e | e); exact h.wn e; exact h.gnw e.symm
  have hpa : ¬ (pa = pn ∨ pa = gn) := by rintro (e | e); exact h.an e; exact h.gna e.symm
  have hga : ¬ (ga = pn ∨ ga = gn) := by rintro (e | e); exact h.gan e; exact h.gg e
  refine { h with below := ?_, row := h.row.upd hu hpw (fun g hg => ?_), jn := hj, jw := h.jw.upd0 hu hpa hga, bo := ?_, bgn := ?_, gnw := ?_, gna := ?_, gg := ?_ }
  · exact h.below.trans (hu.below (fun b hb => by rcases hb with e | e; rw [e]; exact h.bn; rw [e]; exact h.bgn) hs)
  · rintro (e | e)
    · exact (h.bo g hg).2.2.1 e
    · exact (h.bo g hg).2.2.2.2 e
  · intro g hg
    have := h.bo g hg
    have l := l0.2 g hg
    exact ⟨this.1, this.2.1, this.2.2.1, this.2.2.2.1, by rcases hf with e | e; rw [e]; exact this.2.2.2.2; omega⟩
  · rcases hf with e | e
    · rw [e]; exact h.bgn
    · omega
  · rcases hf with e | e
    · rw [e]; exact h.gnw
    · have := l0.1; omega
  · rcases hf with e | e
    · rw [e]; exact h.gna
    · omega
  · rcases hf with e | e
    · rw [e]; exact h.gg
    · omega

/-- The cells of a job. -/
theorem JAt.cells {w : World} {p g : Nat} {js : List Job} {cap : Nat} {cur : Array Value} (h : JAt w p g js cap cur) {x : Job} {i : Nat} (hx : js[i]? = some x) :
    w.cell? ⟨g, i * 3, none⟩ = some (.int .i64 x.need) ∧ w.cell? ⟨g, i * 3 + 1, none⟩ = some (.int .i64 x.due) ∧ w.cell? ⟨g, i * 3 + 2, none⟩ = some (.int .i64 x.left) := by
  have hi : i < js.length := (List.getElem?_eq_some_iff.1 hx).1
  have he : js[i] = x := (List.getElem?_eq_some_iff.1 hx).2
  obtain ⟨c0, c1, c2⟩ := h.2.2.2.2.2.2.2 i hi
  rw [he] at c0 c1 c2
  exact ⟨h.2.1.cell c0, h.2.1.cell c1, h.2.1.cell c2⟩

/-- A store into the due of a job. -/
theorem JAt.setDue {w : World} {p g : Nat} {js : List Job} {cap : Nat} {cur : Array Value} (h : JAt w p g js cap cur) {x : Job} {i : Nat} (hx : js[i]? = some x) (d : Int) :
    ∃ cur', JAt (w.setCell ⟨g, i * 3 + 1, none⟩ (.int .i64 d)) p g (js.set i ⟨x.need, d, x.left⟩) cap cur' := by
  have hi : i < js.length := (List.getElem?_eq_some_iff.1 hx).1
  have he : js[i] = x := (List.getElem?_eq_some_iff.1 hx).2
  obtain ⟨c0, c1, c2⟩ := h.2.2.2.2.2.2.2 i hi
  rw [he] at c0 c1 c2
  refine ⟨cur.setIfInBounds (i * 3 + 1) (.int .i64 d), ?_, h.2.1.setCell _ _, h.2.2.1, by simpa using h.2.2.2.1, h.2.2.2.2.1, by simpa using h.2.2.2.2.2.1, ?_⟩
  · have := h.1.setCell_ne (a := ⟨g, i * 3 + 1, none⟩) h.2.2.1 (.int .i64 d)
    rw [List.length_set]; exact this
  · have hs := JC_set h.2.2.2.2.2.2 i hi ⟨x.need, d, x.left⟩
    have e : setC cur i ⟨x.need, d, x.left⟩ = cur.setIfInBounds (i * 3 + 1) (.int .i64 d) := by
      have g0 : i * 3 + 2 < cur.size := by have := h.2.2.2.2.2.2.1; omega
      apply Array.ext_getElem?
      intro k
      simp only [setC, Array.getElem?_setIfInBounds, Array.size_setIfInBounds]
      by_cases k0 : i * 3 = k
      · subst k0
        rw [if_neg (by omega), if_neg (by omega), if_pos rfl, if_pos (by omega), if_neg (by omega), c0]
      · by_cases k2 : i * 3 + 2 = k
        · subst k2
          rw [if_pos rfl, if_pos (by omega), if_neg (by omega), c2]
        · rw [if_neg k2]
          by_cases k1 : i * 3 + 1 = k
          · rw [if_pos k1, if_pos k1]
          · rw [if_neg k1, if_neg k1, if_neg k0]
    rw [← e]; exact hs

/-- A store into the left of a job. -/
theorem JAt.setLeft {w : World} {p g : Nat} {js : List Job} {cap : Nat} {cur : Array Value} (h : JAt w p g js cap cur) {x : Job} {i : Nat} (hx : js[i]? = some x) (d : Int) :
    ∃ cur', JAt (w.setCell ⟨g, i * 3 + 2, none⟩ (.int .i64 d)) p g (js.set i ⟨x.need, x.due, d⟩) cap cur' := by
  have hi : i < js.length := (List.getElem?_eq_some_iff.1 hx).1
  have he : js[i] = x := (List.getElem?_eq_some_iff.1 hx).2
  obtain ⟨c0, c1, c2⟩ := h.2.2.2.2.2.2.2 i hi
  rw [he] at c0 c1 c2
  refine ⟨cur.setIfInBounds (i * 3 + 2) (.int .i64 d), ?_, h.2.1.setCell _ _, h.2.2.1, by simpa using h.2.2.2.1, h.2.2.2.2.1, by simpa using h.2.2.2.2.2.1, ?_⟩
  · have := h.1.setCell_ne (a := ⟨g, i * 3 + 2, none⟩) h.2.2.1 (.int .i64 d)
    rw [List.length_set]; exact this
  · have hs := JC_set h.2.2.2.2.2.2 i hi ⟨x.need, x.due, d⟩
    have e : setC cur i ⟨x.need, x.due, d⟩ = cur.setIfInBounds (i * 3 + 2) (.int .i64 d) := by
      have g0 : i * 3 + 2 < cur.size := by have := h.2.2.2.2.2.2.1; omega
      apply Array.ext_getElem?
      intro k
      simp only [setC, Array.getElem?_setIfInBounds, Array.size_setIfInBounds]
      by_cases k2 : i * 3 + 2 = k
      · rw [if_pos k2, if_pos k2]
      · rw [if_neg k2, if_neg k2]
        by_cases k0 : i * 3 = k
        · subst k0
          rw [if_neg (by omega), if_pos rfl, if_pos (by omega), c0]
        · by_cases k1 : i * 3 + 1 = k
          · subst k1
            rw [if_pos rfl, if_pos (by omega), c1]
          · rw [if_neg k1, if_neg k0]
    rw [← e]; exact hs
end
end Go.Proofs.Ytenfikfgliljmaa.LA
/- Slots that are read: a slot row's length, who has how much of it, who runs at a tick; plain. -/
namespace Go.Proofs.Ytenfikfgliljmaa.LA
open Go.RowKit

/-- A slice of slots reads so, from its address on. -/
def SlotsAt (w : World) (A : Option Addr) (ys : List Slot) : Prop :=
  ∀ i (h : i < ys.length), ∃ b off, A = some ⟨b, off, none⟩ ∧ w.cell? ⟨b, off + i * 3, none⟩ = some (.string ys[i].subj) ∧ w.cell? ⟨b, off + i * 3 + 1, none⟩ = some (.int .i64 ys[i].lo) ∧
    w.cell? ⟨b, off + i * 3 + 2, none⟩ = some (.int .i64 ys[i].hi)

theorem SlotsAt.below {w w' : World} {A : Option Addr} {ys : List Slot} (h : SlotsAt w A ys) (hb : Below w.heap.size w w') : SlotsAt w' A ys := by
  intro i hi
  obtain ⟨b, off, rfl, h0, h1, h2⟩ := h i hi
  exact ⟨b, off, rfl, (hb.cell (World.block_lt_of_cell? w _ h0)).trans h0, (hb.cell (World.block_lt_of_cell? w _ h1)).trans h1, (hb.cell (World.block_lt_of_cell? w _ h2)).trans h2⟩

theorem SRow.at {w : World} {g : Nat} {ys : List Slot} {cap : Nat} {cur : Array Value} (h : SRow w g ys cap cur) : SlotsAt w (some ⟨g, 0, none⟩) ys := by
  intro i hi
  obtain ⟨c0, c1, c2⟩ := h.2.2.2.2.2 i hi
  refine ⟨g, 0, rfl, ?_, ?_, ?_⟩
  · rw [Nat.zero_add]; exact h.1.cell c0
  · rw [Nat.zero_add]; exact h.1.cell c1
  · rw [Nat.zero_add]; exact h.1.cell c2

/-- The numbers of slots are of their kind. -/
def SlotsOk (ys : List Slot) : Prop := ∀ x, x ∈ ys → -9223372036854775808 ≤ x.lo ∧ x.lo ≤ 9223372036854775807 ∧ -9223372036854775808 ≤ x.hi ∧ x.hi ≤ 9223372036854775807

/-- Is the subject the one ahead? -/
def sameB (p : Option ByteArray) (s : ByteArray) : Bool := match p with
  | none => false
  | some q => s.toList == q.toList

/-- How many ticks a slot row has; 0: it is none. -/
def rowGo : Option ByteArray → Int → List Slot → Int
  | _, e, [] => e
  | p, e, x :: r => if x.lo ≠ e ∨ x.hi ≤ x.lo ∨ sameB p x.subj = true then 0 else rowGo (some x.subj) x.hi r
def rowLen (ys : List Slot) : Int := rowGo none 0 ys

/-- The subject ahead of place k. -/
def ahead (ys : List Slot) (k : Nat) : Option ByteArray := if k = 0 then none else ys[k - 1]?.map (·.subj)

/-- How many ticks a subject has. -/
def budGo (s : ByteArray) (x : Slot) : Int := if x.subj.toList = s.toList ∧ 0 ≤ x.lo ∧ x.lo < x.hi ∧ x.hi ≤ 65536 then x.hi - x.lo else 0
def budL (s : ByteArray) : List Slot → Int
  | [] => 0
  | x :: r => budGo s x + budL s r

theorem budGo_bd (s : ByteArray) (x : Slot) : 0 ≤ budGo s x ∧ budGo s x ≤ 65536 := by unfold budGo; split <;> omega
theorem budL_bd (s : ByteArray) : ∀ ys, 0 ≤ budL s ys ∧ budL s ys ≤ 65536 * ys.length
  | [] => by simp [budL]
  | x :: r => by have := budGo_bd s x; have := budL_bd s r; simp only [budL, List.length_cons]; omega
theorem budL_append (s : ByteArray) : ∀ a b, budL s (a ++ b) = budL s a + budL s b
  | [], b => by simp [budL]
  | x :: r, b => by simp only [List.cons_append, budL, budL_append s r b]; omega

/-- The slot of a tick of a row. -/
def findAt (o : Int) : List Slot → ByteArray × Int
  | [] => (⟨#[]⟩, 0)
  | x :: r => if o < x.hi then (x.subj, x.hi - o) else findAt o r
def schedL (ys : List Slot) (o : Int) : ByteArray × Int := if rowLen ys = 0 then (⟨#[]⟩, 0) else findAt (max o 0 % rowLen ys) ys

theorem findAt_get {o : Int} : ∀ {ys : List Slot} {k : Nat} (h : k < ys.length), (∀ j (hj : j < k), ys[j].hi ≤ o) → o < ys[k].hi → findAt o ys = (ys[k].subj, ys[k].hi - o)
  | x :: r, 0, _, _, h2 => by simp only [List.getElem_cons_zero] at h2 ⊢; simp [findAt, h2]
  | x :: r, k + 1, h, h1, h2 => by
    have h3 := h1 0 (by omega)
    simp only [List.getElem_cons_zero] at h3
    rw [findAt, if_neg (by omega)]
    simp only [List.getElem_cons_succ] at h2 ⊢
    exact findAt_get (ys := r) (k := k) (by simpa using h) (fun j hj => by have := h1 (j + 1) (by omega); simpa using this) h2

/-- What a row that is right is like. -/
theorem rowGo_right : ∀ {ys : List Slot} {p : Option ByteArray} {e : Int}, 0 ≤ e → rowGo p e ys ≠ 0 → e ≤ rowGo p e ys ∧ (∀ k (h : k < ys.length), e < ys[k].hi ∧ ys[k].hi ≤ rowGo p e ys) ∧ (∀ j k (hj : j < k) (hk : k < ys.length), ys[j].hi < ys[k].hi) ∧
    (0 < ys.length → ∃ h : ys.length - 1 < ys.length, ys[ys.length - 1].hi = rowGo p e ys)
  | [], p, e, h0, h => ⟨by simp [rowGo], fun k h => absurd h (Nat.not_lt_zero _), fun j k _ hk => absurd hk (Nat.not_lt_zero _), fun h => absurd h (Nat.not_lt_zero _)⟩
  | x :: r, p, e, h0, h => by
    simp only [rowGo] at h ⊢
    by_cases hc : x.lo ≠ e ∨ x.hi ≤ x.lo ∨ sameB p x.subj = true
    · rw [if_pos hc] at h; exact absurd rfl h
    · rw [if_neg hc] at h ⊢
      obtain ⟨a, b, c, d⟩ := rowGo_right (ys := r) (p := some x.subj) (e := x.hi) (by omega) h
      refine ⟨by omega, fun k hk => ?_, fun j k hj hk => ?_, fun _ => ⟨by simp, ?_⟩⟩
      · cases k with
        | zero => simp only [List.getElem_cons_zero]; omega
        | succ k => have := b k (by simpa using hk); simp only [List.getElem_cons_succ]; omega
      · cases k with
        | zero => omega
        | succ k =>
          cases j with
          | zero => have := b k (by simpa using hk); simp only [List.getElem_cons_succ, List.getElem_cons_zero]; omega
          | succ j => have := c j k (by omega) (by simpa using hk); simpa using this
      · cases r with
        | nil => simp [rowGo]
        | cons y r =>
          obtain ⟨h1, h2⟩ := d (by simp)
          simp only [List.length_cons, Nat.add_sub_cancel] at h2 ⊢
          rw [List.getElem_cons_succ]
          exact h2
end Go.Proofs.Ytenfikfgliljmaa.LA
/- Stints, and who runs at an offset of a row of them; plain. -/
namespace Go.Proofs.Ytenfikfgliljmaa.LA
open Go.RowKit

structure Stint where
  subj : Int
  ticks : Int

/-- A slice of stints reads so, from its address on. -/
def StintsAt (w : World) (A : Option Addr) (ys : List Stint) : Prop :=
  ∀ i (h : i < ys.length), ∃ b off, A = some ⟨b, off, none⟩ ∧ w.cell? ⟨b, off + i * 2, none⟩ = some (.int .i64 ys[i].subj) ∧ w.cell? ⟨b, off + i * 2 + 1, none⟩ = some (.int .i64 ys[i].ticks)

theorem StintsAt.below {w w' : World} {A : Option Addr} {ys : List Stint} (h : StintsAt w A ys) (hb : Below w.heap.size w w') : StintsAt w' A ys := by
  intro i hi
  obtain ⟨b, off, rfl, h0, h1⟩ := h i hi
  exact ⟨b, off, rfl, (hb.cell (World.block_lt_of_cell? w _ h0)).trans h0, (hb.cell (World.block_lt_of_cell? w _ h1)).trans h1⟩

def StintsOk (ys : List Stint) : Prop := ∀ x, x ∈ ys → -9223372036854775808 ≤ x.subj ∧ x.subj ≤ 9223372036854775807 ∧ -9223372036854775808 ≤ x.ticks ∧ x.ticks ≤ 9223372036854775807

/-- What is known: where the next stint begins, who runs at the offset, for how long so far. -/
structure Know where
  e : Int
  who : Int
  left : Int

/-- A stint is taken; false: all is known. -/
def takeL (M o : Int) (q : Know) (s t : Int) : Know × Bool :=
  let e' := q.e + min t (M - q.e)
  let s' := max s (-1)
  if e' ≤ o then (⟨e', q.who, q.left⟩, decide (e' < M))
  else if q.left = 0 then (⟨e', s', e' - max q.e o⟩, decide (e' < M))
  else if s' = q.who then (⟨e', q.who, q.left + (e' - q.e)⟩, decide (e' < M))
  else (⟨e', q.who, q.left⟩, false)

/-- The five variables that At's closure shares with At. -/
structure AtVars (w : World) (pe pm po pl pw : Nat) (M o : Int) (q : Know) : Prop where
  re : Row w pe 3 #[.int .i64 q.e]
  rm : Row w pm 3 #[.int .i64 M]
  ro : Row w po 3 #[.int .i64 o]
  rl : Row w pl 3 #[.int .i64 q.left]
  rw : Row w pw 3 #[.int .i64 q.who]

/-- They are five. -/
structure Five (pe pm po pl pw : Nat) : Prop where
  em : pe ≠ pm
  eo : pe ≠ po
  el : pe ≠ pl
  ew : pe ≠ pw
  mo : pm ≠ po
  ml : pm ≠ pl
  mw : pm ≠ pw
  ol : po ≠ pl
  ow : po ≠ pw
  lw : pl ≠ pw

theorem AtVars.upd {w w' : World} {pe pm po pl pw : Nat} {M o : Int} {q : Know} {S : Nat → Prop} (h : AtVars w pe pm po pl pw M o q) (hu : Upd S w w') (h1 : ¬ S pe) (h2 : ¬ S pm) (h3 : ¬ S po) (h4 : ¬ S pl) (h5 : ¬ S pw) : AtVars w' pe pm po pl pw M o q :=
  ⟨hu.row h.re h1, hu.row h.rm h2, hu.row h.ro h3, hu.row h.rl h4, hu.row h.rw h5⟩
theorem AtVars.setE {w : World} {pe pm po pl pw : Nat} {M o : Int} {q : Know} (h : AtVars w pe pm po pl pw M o q) (F : Five pe pm po pl pw) (v : Int) : AtVars (w.setCell ⟨pe, 0, none⟩ (.int .i64 v)) pe pm po pl pw M o ⟨v, q.who, q.left⟩ :=
  ⟨h.re.setCell 0 _, h.rm.setCell_ne F.em _, h.ro.setCell_ne F.eo _, h.rl.setCell_ne F.el _, h.rw.setCell_ne F.ew _⟩
theorem AtVars.setL {w : World} {pe pm po pl pw : Nat} {M o : Int} {q : Know} (h : AtVars w pe pm po pl pw M o q) (F : Five pe pm po pl pw) (v : Int) : AtVars (w.setCell ⟨pl, 0, none⟩ (.int .i64 v)) pe pm po pl pw M o ⟨q.e, q.who, v⟩ :=
  ⟨h.re.setCell_ne F.el.symm _, h.rm.setCell_ne F.ml.symm _, h.ro.setCell_ne F.ol.symm _, h.rl.setCell 0 _, h.rw.setCell_ne F.lw _⟩
theorem AtVars.setW {w : World} {pe pm po pl pw : Nat} {M o : Int} {q : Know} (h : AtVars w pe pm po pl pw M o q) (F : Five pe pm po pl pw) (v : Int) : AtVars (w.setCell ⟨pw, 0, none⟩ (.int .i64 v)) pe pm po pl pw M o ⟨q.e, v, q.left⟩ :=
  ⟨h.re.setCell_ne F.ew.symm _, h.rm.setCell_ne F.mw.symm _, h.ro.setCell_ne F.ow.symm _, h.rl.setCell_ne F.lw.symm _, h.rw.setCell 0 _⟩
theorem AtVars.drew {w : World} {pe pm po pl pw : Nat} {M o : Int} {q : Know} (h : AtVars w pe pm po pl pw M o q) : AtVars w.drew pe pm po pl pw M o q := ⟨h.re, h.rm, h.ro, h.rl, h.rw⟩
end Go.Proofs.Ytenfikfgliljmaa.LA
/- A copy of elements of any width into a row that the call made; plain. -/
namespace Go.Proofs.Ytenfikfgliljmaa.LA
open Go.RowKit
theorem fmap_len {α : Type} (f : α → List Value) (k : Nat) (hf : ∀ x, (f x).length = k) (xs : List α) : (xs.flatMap f).length = xs.length * k := by
  induction xs with
  | nil => simp
  | cons x r ih => rw [List.flatMap_cons, List.length_append, hf, ih, List.length_cons, Nat.succ_mul, Nat.add_comm]
theorem fmap_get {α : Type} (f : α → List Value) (k : Nat) (hf : ∀ x, (f x).length = k) : ∀ (xs : List α) (i j : Nat) (hi : i < xs.length), j < k → (xs.flatMap f)[i * k + j]? = (f xs[i])[j]?
  | [], _, _, hi, _ => absurd hi (Nat.not_lt_zero _)
  | x :: r, 0, j, _, hj => by rw [List.flatMap_cons, Nat.zero_mul, Nat.zero_add, List.getElem?_append_left (by rw [hf]; exact hj)]; rfl
  | x :: r, i + 1, j, hi, hj => by
    rw [List.flatMap_cons, List.getElem?_append_right (by rw [hf, Nat.succ_mul]; omega), hf, show (i + 1) * k + j - k = i * k + j by rw [Nat.succ_mul]; omega, fmap_get f k hf r i j (by simpa using hi) hj]
    rfl

theorem Row.setRow {w : World} {g t : Nat} {cur : Array Value} (h : Row w g t cur) (cs : Array Value) : Row (w.setRow g cs) g t cs := setRow_heap w g _ _ t _ h
theorem Upd.setRow (w : World) (g : Nat) (cs : Array Value) : Upd (· = g) w (w.setRow g cs) :=
  ⟨rfl, rfl, rfl, by simp [World.setRow], fun b _ hb => setRow_other w g b cs hb⟩

/-- What a copy lays into a row of its own, from its beginning on. -/
theorem run_copy_wide {P : Program} (w : World) (T ty elem : TypeId) (g dLen dCap k m : Nat) (A : Option Addr) (sLen sCap : Nat) (cur : Array Value) (t : TypeId) (cs : List Value)
    (hu : P.underlying T = some (.slice elem)) (hs : (P.info? elem).map (·.size) = some k) (hg : Row w g t cur) (hm : m = Nat.min sLen dLen) (hn : cs.length = m * k)
    (hsrc : ∀ j v, cs[j]? = some v → ∃ a, A = some a ∧ w.cell? (a.add j) = some v) (hfit : cs.length ≤ cur.size) (h1 : ∀ v ∈ cs, v.oneCell' = true) :
    (Builtin.copy_ #[T, T] ty #[.slice (some ⟨g, 0, none⟩) dLen dCap, .slice A sLen sCap]).run P w = .ok (goInt m) (w.setRow g (cs ++ cur.toList.drop cs.length).toArray) := by
  have hst := run_storeCells_at P g 0 t cs 0 cur w hg (by simpa using hfit) h1
  simp only [Nat.add_zero, Nat.zero_add, List.take_zero, List.nil_append] at hst
  cases hq : P.info? elem with
  | none => simp [hq] at hs
  | some i =>
    have hi : i.size = k := by simpa [hq] using hs
    cases A with
    | none =>
      have hz : cs = [] := by
        cases cs with
        | nil => rfl
        | cons v r => obtain ⟨a, ha, _⟩ := hsrc 0 v rfl; cases ha
      subst hz
      simp [Builtin.copy_, run_underlying hu, Builtin.lenOf, Builtin.firstCells, sizeOf, typeInfo, hq, ← hm] at hst ⊢
      simp [hst]
    | some a =>
      have hl := run_loadCells_list (P := P) w a cs (fun j v hj => by obtain ⟨a', ha, hc⟩ := hsrc j v hj; cases ha; exact hc)
      rw [hn] at hl
      simp [Builtin.copy_, run_underlying hu, Builtin.lenOf, Builtin.firstCells, sizeOf, typeInfo, hq, hi, ← hm, hl, hst]

theorem made_get (z : Array Value) (n j : Nat) (hj : j < n) : (madeCells z n)[j]? = some z[j % z.size]! := by
  simp [madeCells, hj]
end Go.Proofs.Ytenfikfgliljmaa.LA
