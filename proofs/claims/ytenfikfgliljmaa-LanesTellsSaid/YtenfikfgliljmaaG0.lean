/- A copy of elements of any width into a row that the call made; plain. -/
import Derived.Test.YtenfikfgliljmaaM
import Derived.Laws.CopyOwn
import Derived.Laws.MakeOwn
namespace Go.Proofs.Ytenfikfgliljmaa.LA
open Go.RowKit
theorem fmap_len {α : Type} (f : α → List Value) (k : Nat) (hf : ∀ x, (f x).length = k) (xs : List α) : (xs.flatMap f).length = xs.length * k := by
  induction xs with
  | nil => simp
  | cons x r ih => rw [List.flatMap_cons, List.length_append, hf, ih, List.length_cons, Nat.succ_mul, Nat.add_comm]
theorem fmap_get {α : Type} (f : α → List Value) (k : Nat) (hf : ∀ x, (f x).length = k) : ∀ (xs : List α) (i j : Nat) (hi : i < xs.length), j < k → (xs.flatMap f)[i * k + j]? = (f xs[i])[j]?
  | [], _, _, hi, _ => absurd hi (Nat.not_lt_zero _)
  | x :: r, 0, j, _, hj => by rw [List.flatMap_cons, Nat.zero_mul, Nat.zero_add, List.getElem?_append_left (by rw [hf]; exact hj)]; rfl
  | x :: r, i + 1, j, hi, hj => by
    rw [List.flatMap_cons, List.getElem?_append_right (by rw [hf, Nat.succ_mul]; omega), hf, show (i + 1) * k + j - k = i * k + j by rw [Nat.succ_mul]; omega, fmap_get f k hf r i j (by simpa using hi) hj]
    rfl

theorem Row.setRow {w : World} {g t : Nat} {cur : Array Value} (h : Row w g t cur) (cs : Array Value) : Row (w.setRow g cs) g t cs := setRow_heap w g _ _ t _ h
theorem Upd.setRow (w : World) (g : Nat) (cs : Array Value) : Upd (· = g) w (w.setRow g cs) :=
  ⟨rfl, rfl, rfl, by simp [World.setRow], fun b _ hb => setRow_other w g b cs hb⟩

/-- What a copy lays into a row of its own, from its beginning on. -/
theorem run_copy_wide {P : Program} (w : World) (T ty elem : TypeId) (g dLen dCap k m : Nat) (A : Option Addr) (sLen sCap : Nat) (cur : Array Value) (t : TypeId) (cs : List Value)
    (hu : P.underlying T = some (.slice elem)) (hs : (P.info? elem).map (·.size) = some k) (hg : Row w g t cur) (hm : m = Nat.min sLen dLen) (hn : cs.length = m * k)
    (hsrc : ∀ j v, cs[j]? = some v → ∃ a, A = some a ∧ w.cell? (a.add j) = some v) (hfit : cs.length ≤ cur.size) (h1 : ∀ v ∈ cs, v.oneCell' = true) :
    (Builtin.copy_ #[T, T] ty #[.slice (some ⟨g, 0, none⟩) dLen dCap, .slice A sLen sCap]).run P w = .ok (goInt m) (w.setRow g (cs ++ cur.toList.drop cs.length).toArray) := by
  have hst := run_storeCells_at P g 0 t cs 0 cur w hg (by simpa using hfit) h1
  simp only [Nat.add_zero, Nat.zero_add, List.take_zero, List.nil_append] at hst
  cases hq : P.info? elem with
  | none => simp [hq] at hs
  | some i =>
    have hi : i.size = k := by simpa [hq] using hs
    cases A with
    | none =>
      have hz : cs = [] := by
        cases cs with
        | nil => rfl
        | cons v r => obtain ⟨a, ha, _⟩ := hsrc 0 v rfl; cases ha
      subst hz
      simp [Builtin.copy_, run_underlying hu, Builtin.lenOf, Builtin.firstCells, sizeOf, typeInfo, hq, ← hm] at hst ⊢
      simp [hst]
    | some a =>
      have hl := run_loadCells_list (P := P) w a cs (fun j v hj => by obtain ⟨a', ha, hc⟩ := hsrc j v hj; cases ha; exact hc)
      rw [hn] at hl
      simp [Builtin.copy_, run_underlying hu, Builtin.lenOf, Builtin.firstCells, sizeOf, typeInfo, hq, hi, ← hm, hl, hst]

theorem made_get (z : Array Value) (n j : Nat) (hj : j < n) : (madeCells z n)[j]? = some z[j % z.size]! := by
  simp [madeCells, hj]
end Go.Proofs.Ytenfikfgliljmaa.LA
