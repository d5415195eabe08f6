/- Plain laws on the model's memory, for the walks of package lanes: no program is in sight. -/
import Derived.WalkKit
import Derived.RowKit3
import Derived.Deep.Draws
import Derived.Below
import Derived.IntWalk
namespace Go.Proofs.Ytenfikfgliljmaa.LA
open Go.RowKit
theorem hide {p : Prop} (h : p) : Hid p := h

/-- Block g is a row of cells of type t. -/
def Row (w : World) (g t : Nat) (cur : Array Value) : Prop := w.heap[g]? = some (.cells cur t (0, 0))

/-- Of what was there only the blocks of S may have turned. -/
structure Upd (S : Nat → Prop) (w w' : World) : Prop where
  os : w'.os = w.os
  tape : w'.tape = w.tape
  output : w'.output = w.output
  size : w.heap.size ≤ w'.heap.size
  block : ∀ k, k < w.heap.size → ¬ S k → w'.heap[k]? = w.heap[k]?

namespace Upd
variable {S T : Nat → Prop} {w w' w1 w2 : World}
theorem refl (S : Nat → Prop) (w : World) : Upd S w w := ⟨rfl, rfl, rfl, Nat.le_refl _, fun _ _ _ => rfl⟩
/-- Two steps; what the second may turn the first may, or it is new. -/
theorem trans (h : Upd S w w1) (k : Upd T w1 w2) (hT : ∀ b, T b → S b ∨ w.heap.size ≤ b) : Upd S w w2 :=
  ⟨k.os.trans h.os, k.tape.trans h.tape, k.output.trans h.output, Nat.le_trans h.size k.size,
   fun b hb hs => (k.block b (Nat.lt_of_lt_of_le hb h.size) (fun ht => by rcases hT b ht with h1 | h1; exact hs h1; omega)).trans (h.block b hb hs)⟩
theorem mono (h : Upd S w w1) (hST : ∀ b, S b → b < w.heap.size → T b) : Upd T w w1 :=
  ⟨h.os, h.tape, h.output, h.size, fun b hb ht => h.block b hb (fun hs => ht (hST b hs hb))⟩
theorem drewN (w : World) (n : Nat) : Upd S w (w.drewN n) := ⟨rfl, rfl, rfl, Nat.le_refl _, fun _ _ _ => rfl⟩
theorem drew (w : World) : Upd S w w.drew := ⟨rfl, rfl, rfl, Nat.le_refl _, fun _ _ _ => rfl⟩
theorem alloc (w : World) (o : Obj) : Upd S w (w.alloc o) := ⟨rfl, rfl, rfl, by simp, fun b hb _ => Below.heap_alloc w o b hb⟩
theorem setCell (w : World) (a : Addr) (v : Value) (hS : S a.block) : Upd S w (w.setCell a v) :=
  ⟨rfl, rfl, rfl, by simp, fun b _ hs => Below.heap_setCell w a v b (fun e => hs (e ▸ hS))⟩
theorem of_below {B : Nat} (h : Below B w w') (hS : ∀ b, B ≤ b → b < w.heap.size → S b) : Upd S w w' :=
  ⟨h.os, h.tape, h.output, h.size, fun b hb hs => h.block b (Nat.lt_of_not_le fun e => hs (hS b e hb))⟩
theorem of_grownBy {row : Option Nat} (h : w.grownBy w' row) (hS : ∀ b, row = some b → S b) : Upd S w w' :=
  ⟨h.os, h.tape, h.output, h.size, fun b hb hs => h.block b hb (fun e => hs (hS b e.symm))⟩
/-- All that may have turned is new since W. -/
theorem below {B : Nat} (h : Upd S w w') (hS : ∀ b, S b → B ≤ b) (hB : B ≤ w.heap.size) : Below B w w' :=
  ⟨h.os, h.tape, h.output, h.size, fun b hb => h.block b (by omega) (fun hs => by have := hS b hs; omega)⟩
theorem cell (h : Upd S w w') {a : Addr} {v : Value} (hc : w.cell? a = some v) (hs : ¬ S a.block) : w'.cell? a = some v :=
  (World.cell?_of_block (h.block a.block (World.block_lt_of_cell? w a hc) hs)).trans hc
theorem row (h : Upd S w w') {g t : Nat} {cur : Array Value} (hr : Row w g t cur) (hs : ¬ S g) : Row w' g t cur :=
  (h.block g (Array.getElem?_eq_some_iff.1 hr).1 hs).trans hr
end Upd

namespace Row
variable {w w' : World} {g t : Nat} {cur : Array Value}
theorem lt (h : Row w g t cur) : g < w.heap.size := (Array.getElem?_eq_some_iff.1 h).1
theorem cell (h : Row w g t cur) {o : Nat} {v : Value} (hv : cur[o]? = some v) : w.cell? ⟨g, o, none⟩ = some v := by
  simp only [Row] at h
  simp [World.cell?, h, hv]
theorem frozen (h : Row w g t cur) (o : Nat) : w.frozen? ⟨g, o, none⟩ = false := frozen_of_row w g o cur t h
theorem drewN (h : Row w g t cur) (n : Nat) : Row (w.drewN n) g t cur := h
theorem drew (h : Row w g t cur) : Row w.drew g t cur := h
theorem alloc_new (w : World) (cur : Array Value) (t : Nat) : Row (w.alloc (.cells cur t)) w.heap.size t cur := heap_alloc_new w _
theorem alloc (h : Row w g t cur) (o : Obj) : Row (w.alloc o) g t cur := (Below.heap_alloc w o g h.lt).trans h
theorem setCell (h : Row w g t cur) (o : Nat) (v : Value) : Row (w.setCell ⟨g, o, none⟩ v) g t (cur.setIfInBounds o v) := heap_setCell_same w g o cur t v h
theorem setCell_ne (h : Row w g t cur) {a : Addr} (ha : a.block ≠ g) (v : Value) : Row (w.setCell a v) g t cur := (Below.heap_setCell w a v g (fun e => ha e.symm)).trans h
/-- One store into the row, as the walk meets it. -/
theorem store (P : Program) (h : Row w g t cur) {o : Nat} (ho : o < cur.size) {v : Value} (hv : v.oneCell' = true) :
    ∃ w', (Go.store ⟨g, o, none⟩ v).run P w = .ok () w' ∧ Row w' g t (cur.setIfInBounds o v) ∧ Upd (· = g) w w' := by
  refine ⟨w.setCell ⟨g, o, none⟩ v, ?_, h.setCell o v, Upd.setCell _ _ _ rfl⟩
  rw [run_store _ _ _ _ _ hv, h.cell (o := o) (v := cur[o]) (by simp [ho])]
  simp [h.frozen o]
end Row
end Go.Proofs.Ytenfikfgliljmaa.LA
