/- Slots in memory, plain. -/
import Derived.Test.YtenfikfgliljmaaM
import Derived.Deep.AppendLies
namespace Go.Proofs.Ytenfikfgliljmaa.LA
open Go.RowKit

structure Slot where
  subj : ByteArray
  lo : Int
  hi : Int

def Slot.zero : Slot := ⟨ByteArray.empty, 0, 0⟩
def Slot.cells (x : Slot) : List Value := [.string x.subj, .int .i64 x.lo, .int .i64 x.hi]
def sflat (l : List Slot) : List Value := l.flatMap Slot.cells

/-- The cells of a row hold the slots, from the first on. -/
def SC (cur : Array Value) (ys : List Slot) : Prop :=
  ys.length * 3 ≤ cur.size ∧ ∀ i (h : i < ys.length), cur[i * 3]? = some (.string ys[i].subj) ∧ cur[i * 3 + 1]? = some (.int .i64 ys[i].lo) ∧ cur[i * 3 + 2]? = some (.int .i64 ys[i].hi)

theorem sflat_length (l : List Slot) : (sflat l).length = l.length * 3 := by
  induction l with
  | nil => rfl
  | cons x l ih => simp only [sflat, List.flatMap_cons, List.length_append, List.length_cons] at ih ⊢; rw [ih]; simp [Slot.cells]; omega

theorem sflat_get : ∀ (l : List Slot) (i : Nat) (h : i < l.length), (sflat l)[i * 3]? = some (.string l[i].subj) ∧ (sflat l)[i * 3 + 1]? = some (.int .i64 l[i].lo) ∧ (sflat l)[i * 3 + 2]? = some (.int .i64 l[i].hi)
  | x :: l, 0, _ => by simp [sflat, Slot.cells]
  | x :: l, i + 1, h => by
    have ih := sflat_get l i (by simpa using h)
    have e : sflat (x :: l) = Slot.cells x ++ sflat l := rfl
    have hl : (Slot.cells x).length = 3 := rfl
    rw [e]
    refine ⟨?_, ?_, ?_⟩
    · rw [List.getElem?_append_right (by rw [hl]; omega), hl, show (i + 1) * 3 - 3 = i * 3 by omega]; exact ih.1
    · rw [List.getElem?_append_right (by rw [hl]; omega), hl, show (i + 1) * 3 + 1 - 3 = i * 3 + 1 by omega]; exact ih.2.1
    · rw [List.getElem?_append_right (by rw [hl]; omega), hl, show (i + 1) * 3 + 2 - 3 = i * 3 + 2 by omega]; exact ih.2.2

theorem sflat_append (l m : List Slot) : sflat (l ++ m) = sflat l ++ sflat m := by simp [sflat]

theorem SC_of_take {cur : Array Value} {ys : List Slot} (h : cur.toList.take (ys.length * 3) = sflat ys) : SC cur ys := by
  have hl : ys.length * 3 ≤ cur.size := by
    have := congrArg List.length h
    rw [sflat_length, List.length_take] at this
    have h2 : cur.toList.length = cur.size := Array.length_toList
    omega
  have key : ∀ o, o < ys.length * 3 → cur[o]? = (sflat ys)[o]? := fun o ho => by
    rw [← h, List.getElem?_take, if_pos ho]; simp
  refine ⟨hl, fun i hi => ?_⟩
  have := sflat_get ys i hi
  rw [key _ (by omega), key _ (by omega), key _ (by omega)]
  exact this

theorem take_of_SC {cur : Array Value} {ys : List Slot} (h : SC cur ys) : cur.toList.take (ys.length * 3) = sflat ys := by
  apply List.ext_getElem?
  intro o
  by_cases ho : o < ys.length * 3
  · rw [List.getElem?_take, if_pos ho]
    have hi : o / 3 < ys.length := by omega
    have h1 := h.2 (o / 3) hi
    have h2 := sflat_get ys (o / 3) hi
    have h3 : o % 3 = 0 ∨ o % 3 = 1 ∨ o % 3 = 2 := by omega
    rcases h3 with h3 | h3 | h3
    · rw [show o = o / 3 * 3 by omega, h2.1, ← h1.1]; simp
    · rw [show o = o / 3 * 3 + 1 by omega, h2.2.1, ← h1.2.1]; simp
    · rw [show o = o / 3 * 3 + 2 by omega, h2.2.2, ← h1.2.2]; simp
  · rw [List.getElem?_take, if_neg ho, List.getElem?_eq_none (by rw [sflat_length]; omega)]

/-- A row of slots of the call's own. -/
def SRow (w : World) (g : Nat) (ys : List Slot) (cap : Nat) (cur : Array Value) : Prop :=
  Row w g 33 cur ∧ ys.length ≤ cap ∧ cap ≤ maxLen ∧ cur.size = cap * 3 ∧ SC cur ys

theorem SRow.owns {w : World} {g : Nat} {ys : List Slot} {cap : Nat} {cur : Array Value} (h : SRow w g ys cap cur) :
    w.ownsRow 0 33 3 (.slice (some ⟨g, 0, none⟩) ys.length cap) ys.length (sflat ys) :=
  ⟨sflat_length ys, .inr ⟨g, cap, cur, rfl, Nat.zero_le _, h.1, h.2.1, h.2.2.1, h.2.2.2.1, take_of_SC h.2.2.2.2⟩⟩

theorem SRow_of_owns {w : World} {base g n cap : Nat} {ys : List Slot} (h : w.ownsRow base 33 3 (.slice (some ⟨g, 0, none⟩) n cap) n (sflat ys)) (hn : n = ys.length) (h0 : 0 < n) :
    ∃ cur, SRow w g ys cap cur := by
  subst hn
  rcases h.2 with ⟨_, h1⟩ | ⟨g', cap', cur, hv, _, hg, h2, h3, h4, h5⟩
  · omega
  · obtain ⟨rfl, rfl⟩ : g' = g ∧ cap' = cap := by simpa using hv.symm
    exact ⟨cur, hg, h2, h3, h4, SC_of_take h5⟩

/-- A row of slots that grows behind the pointer p: none yet, or the row g. -/
def WAt (w : World) (p : Nat) (o : Option Nat) (ys : List Slot) : Prop :=
  match o with
  | none => ys = [] ∧ Row w p 74 #[.slice none 0 0]
  | some g => 0 < ys.length ∧ ∃ cap cur, Row w p 74 #[.slice (some ⟨g, 0, none⟩) ys.length cap] ∧ SRow w g ys cap cur ∧ g ≠ p

theorem WAt.upd {w w' : World} {p : Nat} {o : Option Nat} {ys : List Slot} {S : Nat → Prop} (h : WAt w p o ys) (hu : Upd S w w') (hp : ¬ S p) (ho : ∀ g, o = some g → ¬ S g) : WAt w' p o ys := by
  cases o with
  | none => exact ⟨h.1, hu.row h.2 hp⟩
  | some g =>
    obtain ⟨h0, cap, cur, hr, hs, hne⟩ := h
    exact ⟨h0, cap, cur, hu.row hr hp, ⟨hu.row hs.1 (ho g rfl), hs.2⟩, hne⟩

/-- The end of a row. -/
def endL (ys : List Slot) : Int := (ys.getLast?.getD .zero).hi
/-- So many ticks of a subject more. -/
def runL (ys : List Slot) (s : ByteArray) (t : Int) : List Slot :=
  match ys.getLast? with
  | none => [⟨s, 0, t⟩]
  | some y => if y.subj.toList == s.toList then ys.dropLast ++ [⟨y.subj, y.lo, y.hi + t⟩] else ys ++ [⟨s, y.hi, y.hi + t⟩]

theorem SC_setHi {cur : Array Value} {zs : List Slot} {y : Slot} (h : SC cur (zs ++ [y])) (t : Int) : SC (cur.setIfInBounds (zs.length * 3 + 2) (.int .i64 t)) (zs ++ [⟨y.subj, y.lo, t⟩]) := by
  have h0 := h.1
  simp only [List.length_append, List.length_singleton] at h0
  refine ⟨by simp; omega, fun i hi => ?_⟩
  simp only [List.length_append, List.length_singleton] at hi
  have hc := h.2 i (by simp; omega)
  simp only [Array.getElem?_setIfInBounds]
  by_cases e : i = zs.length
  · subst e
    rw [List.getElem_concat_length rfl] at hc ⊢
    refine ⟨?_, ?_, ?_⟩
    · rw [if_neg (by omega)]; exact hc.1
    · rw [if_neg (by omega)]; exact hc.2.1
    · rw [if_pos rfl, if_pos (by omega)]
  · rw [List.getElem_append_left (by omega)] at hc ⊢
    refine ⟨?_, ?_, ?_⟩
    · rw [if_neg (by omega)]; exact hc.1
    · rw [if_neg (by omega)]; exact hc.2.1
    · rw [if_neg (by omega)]; exact hc.2.2
end Go.Proofs.Ytenfikfgliljmaa.LA
