/- The book in memory: lists that were handed out, a copy of each; plain. -/
import Derived.Test.YtenfikfgliljmaaMK
import Derived.Test.YtenfikfgliljmaaB3
namespace Go.Proofs.Ytenfikfgliljmaa.LA
open Go.RowKit
/-- A list that is kept, its copy, what both read. -/
structure Ent where
  v : Value
  u : Value
  ys : List Slot
theorem SVal.upd {w w' : World} {B : Nat} {v : Value} {ys : List Slot} {S : Nat → Prop} (h : SVal w B v ys) (hu : Upd S w w') (hS : ∀ b, v.ownBlock = some b → ¬ S b) : SVal w' B v ys := by
  rcases h with h | ⟨g, cap, cur, hv, hg, hr, h0⟩
  · exact .inl h
  · exact .inr ⟨g, cap, cur, hv, hg, ⟨hu.row hr.1 (hS g (by rw [hv]; rfl)), hr.2⟩, h0⟩
theorem SVal.lt {w : World} {B : Nat} {v : Value} {ys : List Slot} (h : SVal w B v ys) : ∀ b, v.ownBlock = some b → b < w.heap.size ∧ B ≤ b := by
  intro b hb
  rcases h with ⟨rfl, _⟩ | ⟨g, cap, cur, rfl, hg, hr, h0⟩
  · cases hb
  · obtain rfl : g = b := by simpa [Value.ownBlock] using hb
    exact ⟨hr.1.lt, hg⟩
theorem SVal.mono {w : World} {B B' : Nat} {v : Value} {ys : List Slot} (h : SVal w B v ys) (hB : B' ≤ B) : SVal w B' v ys := by
  rcases h with h | ⟨g, cap, cur, hv, hg, h2⟩
  · exact .inl h
  · exact .inr ⟨g, cap, cur, hv, by omega, h2⟩
/-- The value lies in blocks of its own: none of those that are named. -/
def Free (F : Nat → Prop) (p : Nat) (lv wv : Value) (x : Value) : Prop := ∀ b, x.ownBlock = some b → F b ∧ b ≠ p ∧ lv.ownBlock ≠ some b ∧ wv.ownBlock ≠ some b
/-- The book. -/
structure BkAt (w : World) (p : Nat) (lv wv : Value) (h : Int) (E : List Ent) (F : Nat → Prop) : Prop where
  box : Row w p 62 #[lv, wv, .int .i64 h, .bool false]
  ls : LSl w 22 lv (E.map (·.v))
  ws : LSl w 22 wv (E.map (·.u))
  ent : ∀ e, e ∈ E → SVal w 0 e.v e.ys ∧ SVal w 0 e.u e.ys ∧ Free F p lv wv e.v ∧ Free F p lv wv e.u
  fp : F p
  fl : ∀ b, lv.ownBlock = some b → F b ∧ b ≠ p ∧ wv.ownBlock ≠ some b
  fw : ∀ b, wv.ownBlock = some b → F b ∧ b ≠ p
  dis : E.Pairwise (fun e f => ∀ b, e.v.ownBlock = some b → f.v.ownBlock ≠ some b)
  lt : ∀ b, F b → b < w.heap.size
  len : ∀ e, e ∈ E → e.ys.length ≤ 4096
section
variable {w w' : World} {p : Nat} {lv wv : Value} {h : Int} {E : List Ent} {F S : Nat → Prop}
theorem BkAt.upd (k : BkAt w p lv wv h E F) (hu : Upd S w w') (hS : ∀ b, S b → ¬ F b) : BkAt w' p lv wv h E F :=
  { k with
    box := hu.row k.box (fun e => hS p e k.fp)
    ls := k.ls.upd hu (fun b hb e => hS b e (k.fl b hb).1)
    ws := k.ws.upd hu (fun b hb e => hS b e (k.fw b hb).1)
    ent := fun e he => by
      obtain ⟨a, b, c, d⟩ := k.ent e he
      exact ⟨a.upd hu (fun g hg s => hS g s (c g hg).1), b.upd hu (fun g hg s => hS g s (d g hg).1), c, d⟩
    lt := fun b hb => Nat.lt_of_lt_of_le (k.lt b hb) hu.size }
/-- One more is kept. -/
theorem BkAt.keep (k : BkAt w p lv wv h E F) {v u lv' wv' : Value} {ys : List Slot} {h' : Int} (hu : Upd (fun b => b = p ∨ lv.ownBlock = some b ∨ wv.ownBlock = some b) w w')
    (hbox : Row w' p 62 #[lv', wv', .int .i64 h', .bool false]) (hls : LSl w' 22 lv' (E.map (·.v) ++ [v])) (hws : LSl w' 22 wv' (E.map (·.u) ++ [u]))
    (hv : SVal w' 0 v ys) (hvw : ∀ b, v.ownBlock = some b → b < w.heap.size ∧ ¬ F b) (hcu : SVal w' 0 u ys) (hun : ∀ b, u.ownBlock = some b → w.heap.size ≤ b ∧ lv'.ownBlock ≠ some b ∧ wv'.ownBlock ≠ some b)
    (hl' : ∀ b, lv'.ownBlock = some b → lv.ownBlock = some b ∨ w.heap.size ≤ b) (hw' : ∀ b, wv'.ownBlock = some b → wv.ownBlock = some b ∨ w.heap.size ≤ b) (hlw : ∀ b, lv'.ownBlock = some b → wv'.ownBlock ≠ some b) (hy : ys.length ≤ 4096) :
    BkAt w' p lv' wv' h' (E ++ [⟨v, u, ys⟩]) (fun b => F b ∨ v.ownBlock = some b ∨ (w.heap.size ≤ b ∧ b < w'.heap.size)) := by
  have hp := k.box.lt
  have old : ∀ x : Value, Free F p lv wv x → Free (fun b => F b ∨ v.ownBlock = some b ∨ (w.heap.size ≤ b ∧ b < w'.heap.size)) p lv' wv' x := fun x hx b hb => by
    obtain ⟨a, c, d, f⟩ := hx b hb
    have := k.lt b a
    exact ⟨.inl a, c, fun e => by rcases hl' b e with e | e; exact d e; omega, fun e => by rcases hw' b e with e | e; exact f e; omega⟩
  refine ⟨hbox, by simpa using hls, by simpa using hws, ?_, .inl k.fp, ?_, ?_, ?_, ?_, fun e he => ?_⟩
  rotate_right
  · rcases List.mem_append.1 he with he | he
    · exact k.len e he
    · obtain rfl : e = ⟨v, u, ys⟩ := by simpa using he
      exact hy
  · intro e he
    rcases List.mem_append.1 he with he | he
    · obtain ⟨a, b, c, d⟩ := k.ent e he
      refine ⟨a.upd hu (fun g hg s => ?_), b.upd hu (fun g hg s => ?_), old _ c, old _ d⟩
      · obtain ⟨q1, q2, q3, q4⟩ := c g hg
        rcases s with s | s | s
        · exact q2 s
        · exact q3 s
        · exact q4 s
      · obtain ⟨q1, q2, q3, q4⟩ := d g hg
        rcases s with s | s | s
        · exact q2 s
        · exact q3 s
        · exact q4 s
    · obtain rfl : e = ⟨v, u, ys⟩ := by simpa using he
      refine ⟨hv, hcu, fun b hb => ?_, fun b hb => ?_⟩
      · obtain ⟨a, c⟩ := hvw b hb
        exact ⟨.inr (.inl hb), fun e => c (e ▸ k.fp), fun e => by rcases hl' b e with e | e; exact c (k.fl b e).1; omega, fun e => by rcases hw' b e with e | e; exact c (k.fw b e).1; omega⟩
      · obtain ⟨a, c, d⟩ := hun b hb
        exact ⟨.inr (.inr ⟨a, (hcu.lt b hb).1⟩), by omega, c, d⟩
  · intro b hb
    have hlt := hls.lt b hb
    rcases hl' b hb with e | e
    · exact ⟨.inl (k.fl b e).1, (k.fl b e).2.1, hlw b hb⟩
    · exact ⟨.inr (.inr ⟨e, hlt⟩), by omega, hlw b hb⟩
  · intro b hb
    have hlt := hws.lt b hb
    rcases hw' b hb with e | e
    · exact ⟨.inl (k.fw b e).1, (k.fw b e).2⟩
    · exact ⟨.inr (.inr ⟨e, hlt⟩), by omega⟩
  · rw [List.pairwise_append]
    refine ⟨k.dis, List.pairwise_singleton _ _, fun e he f hf b hb hb' => ?_⟩
    obtain rfl : f = ⟨v, u, ys⟩ := by simpa using hf
    exact (hvw b hb').2 ((k.ent e he).2.2.1 b hb).1
  · intro b hb
    rcases hb with hb | hb | hb
    · exact Nat.lt_of_lt_of_le (k.lt b hb) hu.size
    · exact Nat.lt_of_lt_of_le (hvw b hb).1 hu.size
    · exact hb.2
/-- The first is let go. -/
theorem BkAt.drop {e : Ent} {gl kl nl cl gw kw cw : Nat} (k : BkAt w p (.slice (some ⟨gl, kl, none⟩) (nl + 1) cl) (.slice (some ⟨gw, kw, none⟩) (nl + 1) cw) h (e :: E) F) (hn : E.length = nl) {h' : Int} (hu : Upd (· = p) w w')
    (hbox : Row w' p 62 #[.slice (some ⟨gl, kl + 1, none⟩) nl (cl - 1), .slice (some ⟨gw, kw + 1, none⟩) nl (cw - 1), .int .i64 h', .bool false]) :
    BkAt w' p (.slice (some ⟨gl, kl + 1, none⟩) nl (cl - 1)) (.slice (some ⟨gw, kw + 1, none⟩) nl (cw - 1)) h' E F := by
  refine ⟨hbox, ?_, ?_, ?_, k.fp, k.fl, k.fw, (List.pairwise_cons.1 k.dis).2, fun b hb => Nat.lt_of_lt_of_le (k.lt b hb) hu.size, fun x hx => k.len x (List.mem_cons_of_mem _ hx)⟩
  · have h1 := k.ls
    rw [List.map_cons] at h1
    exact (h1.tail (by simpa using hn)).upd hu (fun b hb s => (k.fl b hb).2.1 s)
  · have h1 := k.ws
    rw [List.map_cons] at h1
    exact (h1.tail (by simpa using hn)).upd hu (fun b hb s => (k.fw b hb).2 s)
  · intro x hx
    obtain ⟨a, b, c, d⟩ := k.ent x (List.mem_cons_of_mem _ hx)
    exact ⟨a.upd hu (fun g hg s => (c g hg).2.1 s), b.upd hu (fun g hg s => (d g hg).2.1 s), c, d⟩
/-- Another number in the box. -/
theorem BkAt.held (k : BkAt w p lv wv h E F) {h' : Int} (hu : Upd (· = p) w w') (hbox : Row w' p 62 #[lv, wv, .int .i64 h', .bool false]) : BkAt w' p lv wv h' E F := by
  refine ⟨hbox, k.ls.upd hu (fun b hb s => (k.fl b hb).2.1 s), k.ws.upd hu (fun b hb s => (k.fw b hb).2 s), ?_, k.fp, k.fl, k.fw, k.dis, fun b hb => Nat.lt_of_lt_of_le (k.lt b hb) hu.size, k.len⟩
  intro x hx
  obtain ⟨a, b, c, d⟩ := k.ent x hx
  exact ⟨a.upd hu (fun g hg s => (c g hg).2.1 s), b.upd hu (fun g hg s => (d g hg).2.1 s), c, d⟩
end
end Go.Proofs.Ytenfikfgliljmaa.LA
