/- bulkheadlaw9's LanesKept. -/
import Derived.Test.YtenfikfgliljmaaKA
import Derived.Test.YtenfikfgliljmaaKY
import Derived.Test.YtenfikfgliljmaaKF
import Derived.Test.YtenfikfgliljmaaMC
import Derived.Deep.QuietTactic
import Derived.BigQuiet
namespace Go.Proofs.Ytenfikfgliljmaa
open Go.RowKit
namespace LA
/-- One ask: its numbers, its list, what of it is read. -/
structure AskD where
  m : Int
  lp : Int
  lc : Int
  nd : Bool
  A : Option Addr
  n : Nat
  cap : Nat
  xs : List Need
def AskD.cells (a : AskD) : Array Value := #[.int .u64 a.m, .int .i64 a.lp, .int .u64 a.lc, .bool a.nd, .slice a.A a.n a.cap]
structure AskD.ok (a : AskD) : Prop where
  m0 : 0 ≤ a.m
  m1 : a.m ≤ 18446744073709551615
  n1 : a.n ≤ 9223372036854775807
  nc : a.n ≤ a.cap
  xl : a.xs.length = min a.n 40
  xok : ∀ x, x ∈ a.xs → x.ok
/-- The asks in memory. -/
def AsksAt (w : World) (AA : Option Addr) (qs : List AskD) : Prop :=
  ∀ i (h : i < qs.length), ∃ b off, AA = some ⟨b, off, none⟩ ∧ w.cell? ⟨b, off + i * 5, none⟩ = some (.int .u64 qs[i].m) ∧ w.cell? ⟨b, off + i * 5 + 1, none⟩ = some (.int .i64 qs[i].lp) ∧ w.cell? ⟨b, off + i * 5 + 2, none⟩ = some (.int .u64 qs[i].lc) ∧
    w.cell? ⟨b, off + i * 5 + 3, none⟩ = some (.bool qs[i].nd) ∧ w.cell? ⟨b, off + i * 5 + 4, none⟩ = some (.slice qs[i].A qs[i].n qs[i].cap) ∧ RunsAt w qs[i].A qs[i].xs ∧ qs[i].ok
theorem AsksAt.below {w w' : World} {AA : Option Addr} {qs : List AskD} (h : AsksAt w AA qs) (hb : Below w.heap.size w w') : AsksAt w' AA qs := by
  intro i hi
  obtain ⟨b, off, rfl, c0, c1, c2, c3, c4, r, k⟩ := h i hi
  have lt := World.block_lt_of_cell? w _ c0
  exact ⟨b, off, rfl, (hb.cell (p := ⟨b, off + i * 5, none⟩) lt).trans c0, (hb.cell (p := ⟨b, off + i * 5 + 1, none⟩) lt).trans c1, (hb.cell (p := ⟨b, off + i * 5 + 2, none⟩) lt).trans c2, (hb.cell (p := ⟨b, off + i * 5 + 3, none⟩) lt).trans c3, (hb.cell (p := ⟨b, off + i * 5 + 4, none⟩) lt).trans c4, r.below hb, k⟩
/-- What stands between two rounds: the book's blocks are none of Z. -/
structure KpAt (w W : World) (n : Nat) (Z : Nat → Prop) : Prop where
  bel : Below w.heap.size w W
  buf : ∃ cur, Row W (w.heap.size + 1) 28 cur ∧ cur.size = 160
  bk : ∃ lv wv h E F, E.length ≤ n ∧ BkAt W w.heap.size lv wv h E F ∧ ∀ b, F b → w.heap.size ≤ b ∧ b ≠ w.heap.size + 1 ∧ ¬ Z b
  zl : ∀ b, Z b → w.heap.size ≤ b ∧ b < W.heap.size
theorem KpAt.upd {w W W' : World} {n : Nat} {Z S : Nat → Prop} (k : KpAt w W n Z) (hu : Upd S W W') (hS : ∀ b, S b → Z b ∧ b ≠ w.heap.size + 1) : KpAt w W' n Z := by
  obtain ⟨cur, hr, hs⟩ := k.buf
  obtain ⟨lv, wv, h, E, F, hE, hb, hF⟩ := k.bk
  exact ⟨k.bel.trans (hu.below (fun b e => (k.zl b (hS b e).1).1) k.bel.size), ⟨cur, hu.row hr (fun e => (hS _ e).2 rfl), hs⟩, ⟨lv, wv, h, E, F, hE, hb.upd hu (fun b e q => (hF b q).2.2 (hS b e).1), hF⟩, fun b hz => ⟨(k.zl b hz).1, Nat.lt_of_lt_of_le (k.zl b hz).2 hu.size⟩⟩
theorem KpAt.write {w W W' : World} {n : Nat} {Z : Nat → Prop} (k : KpAt w W n Z) (hu : Upd (· = w.heap.size + 1) W W') {cur : Array Value} (hr : Row W' (w.heap.size + 1) 28 cur) (hs : cur.size = 160) : KpAt w W' n Z := by
  obtain ⟨lv, wv, h, E, F, hE, hb, hF⟩ := k.bk
  exact ⟨k.bel.trans (hu.below (fun _ e => by omega) k.bel.size), ⟨cur, hr, hs⟩, ⟨lv, wv, h, E, F, hE, hb.upd hu (fun b e q => (hF b q).2.1 e), hF⟩, fun b hz => ⟨(k.zl b hz).1, Nat.lt_of_lt_of_le (k.zl b hz).2 hu.size⟩⟩
theorem KpAt.more {w W : World} {n m : Nat} {Z Z' : Nat → Prop} (k : KpAt w W n Z) (h : n ≤ m) (hZ : ∀ b, Z' b → Z b) : KpAt w W m Z' := by
  obtain ⟨lv, wv, hh, E, F, hE, hb, hF⟩ := k.bk
  exact ⟨k.bel, k.buf, ⟨lv, wv, hh, E, F, by omega, hb, fun b q => ⟨(hF b q).1, (hF b q).2.1, fun z => (hF b q).2.2 (hZ b z)⟩⟩, fun b z => k.zl b (hZ b z)⟩
/-- New blocks join Z. -/
theorem KpAt.fresh {w W W' : World} {n : Nat} {S Z : Nat → Prop} (k : KpAt w W n (fun _ => False)) (hu : Upd S W W') (hS : ∀ b, S b → W.heap.size ≤ b) (hZ : ∀ b, Z b → W.heap.size ≤ b ∧ b < W'.heap.size) : KpAt w W' n Z := by
  obtain ⟨cur, hr, hs⟩ := k.buf
  obtain ⟨lv, wv, h, E, F, hE, hb, hF⟩ := k.bk
  have l1 := hr.lt
  have l2 := k.bel.size
  exact ⟨k.bel.trans (hu.below (fun b e => by have := hS b e; omega) k.bel.size), ⟨cur, hu.row hr (fun e => by have := hS _ e; omega), hs⟩, ⟨lv, wv, h, E, F, hE, hb.upd hu (fun b e q => by have := hS b e; have := hb.lt b q; omega), fun b q => ⟨(hF b q).1, (hF b q).2.1, fun z => by have := hZ b z; have := hb.lt b q; omega⟩⟩, fun b z => by have := hZ b z; omega⟩
theorem KpAt.kept {w W W' : World} {n : Nat} {Z F F' : Nat → Prop} {v lv wv : Value} {h : Int} {E : List Ent} (k : KpAt w W n Z) (hF : ∀ b, F b → w.heap.size ≤ b ∧ b ≠ w.heap.size + 1 ∧ ¬ Z b) (hu : Upd F W W') (hE : E.length ≤ n + 1)
    (hb : BkAt W' w.heap.size lv wv h E F') (hF' : ∀ b, F' b → F b ∨ v.ownBlock = some b ∨ W.heap.size ≤ b) (hv : ∀ b, v.ownBlock = some b → w.heap.size ≤ b ∧ b ≠ w.heap.size + 1 ∧ ¬ Z b) : KpAt w W' (n + 1) Z := by
  obtain ⟨cur, hr, hs⟩ := k.buf
  have l1 := hr.lt
  have l2 := k.bel.size
  refine ⟨k.bel.trans (hu.below (fun b e => (hF b e).1) k.bel.size), ⟨cur, hu.row hr (fun e => (hF _ e).2.1 rfl), hs⟩, ⟨lv, wv, h, E, F', hE, hb, fun b q => ?_⟩, fun b z => ⟨(k.zl b z).1, Nat.lt_of_lt_of_le (k.zl b z).2 hu.size⟩⟩
  rcases hF' b q with q | q | q
  · exact hF b q
  · exact hv b q
  · exact ⟨by omega, by omega, fun z => by have := (k.zl b z).2; omega⟩
/-- The blocks of x and y. -/
structure XyAt (W : World) (x y : Nat) (q : AskD) : Prop where
  rx : Row W x 64 #[.int .u64 q.m, .int .i64 q.lp, .int .u64 q.lc, .bool q.nd, .slice q.A q.xs.length q.cap]
  ry : ∃ v, Row W y 31 #[.int .i64 q.lp, .int .u64 q.lc, .bool q.nd, v]
theorem XyAt.upd {W W' : World} {x y : Nat} {q : AskD} {S : Nat → Prop} (h : XyAt W x y q) (hu : Upd S W W') (hS : ∀ b, S b → b ≠ x ∧ b ≠ y) : XyAt W' x y q := by
  obtain ⟨v, ry⟩ := h.ry
  exact ⟨hu.row h.rx (fun e => (hS _ e).1 rfl), v, hu.row ry (fun e => (hS _ e).2 rfl)⟩
theorem KpAt.join {w W W' : World} {n : Nat} {Z0 Z : Nat → Prop} (k : KpAt w W n Z0) (hu : Upd (fun _ => False) W W') (hZ : ∀ b, Z b → Z0 b ∨ (W.heap.size ≤ b ∧ b < W'.heap.size)) : KpAt w W' n Z := by
  obtain ⟨cur, hr, hs⟩ := k.buf
  obtain ⟨lv, wv, h, E, F, hE, hb, hF⟩ := k.bk
  have l2 := k.bel.size
  have l3 := hu.size
  refine ⟨k.bel.trans (hu.below (fun b e => e.elim) k.bel.size), ⟨cur, hu.row hr (fun e => e), hs⟩, ⟨lv, wv, h, E, F, hE, hb.upd hu (fun b e q => e), fun b q => ⟨(hF b q).1, (hF b q).2.1, fun z => ?_⟩⟩, fun b z => ?_⟩
  · have l4 := hb.lt b q
    rcases hZ b z with z | z
    · exact (hF b q).2.2 z
    · omega
  · rcases hZ b z with z | z
    · have := k.zl b z; omega
    · omega
/-- Keep of a list that is none of the book's. -/
theorem kept_any {w W : World} {n : Nat} {Z : Nat → Prop} {v : Value} {ys : List Slot} (k : KpAt w W n (fun b => Z b ∨ v.ownBlock = some b)) (hn : n ≤ 100) (hv : SVal W 0 v ys) (hy : ys.length ≤ 4096) (hz : ∀ b, v.ownBlock = some b → b ≠ w.heap.size + 1 ∧ ¬ Z b) :
    Calls Try.prog 32 #[.pointer (some ⟨w.heap.size, 0, none⟩), v] W (fun e W' => e = .returned (.tuple #[]) ∧ KpAt w W' (n + 1) Z ∧ ∃ F : Nat → Prop, Upd F W W' ∧ ∀ b, F b → ¬ Z b) := by
  obtain ⟨lv, wv, h, E, F, hE, hb, hF⟩ := k.bk
  have k2 : KpAt w W n Z := k.more (Nat.le_refl _) (fun b z => .inl z)
  have hF2 : ∀ b, F b → w.heap.size ≤ b ∧ b ≠ w.heap.size + 1 ∧ ¬ Z b := fun b q => ⟨(hF b q).1, (hF b q).2.1, fun z => (hF b q).2.2 (.inl z)⟩
  have fin : ∀ e W', KeepPost w.heap.size v (E.length + 1) F W e W' → e = .returned (.tuple #[]) ∧ KpAt w W' (n + 1) Z ∧ ∃ F : Nat → Prop, Upd F W W' ∧ ∀ b, F b → ¬ Z b := by
    rintro e W' ⟨rfl, lv', wv', h', E', F', hE', hb', hu, hF'⟩
    exact ⟨rfl, k2.kept hF2 hu (by omega) hb' hF' (fun b q => ⟨(k.zl b (.inr q)).1, hz b q⟩), F, hu, fun b q => (hF2 b q).2.2⟩
  rcases hv with ⟨rfl, rfl⟩ | ⟨g, cap, cur, rfl, _, hr, h0⟩
  · exact (keep_none _ lv wv h E F W hb (by omega)).mono fin
  · exact (keep_some _ g cap cur ys lv wv h E F W hb (by omega) hr h0 hy (fun q => (hF g q).2.2 (.inr rfl))).mono fin
theorem runs_row {W : World} {g : Nat} {xs : List Need} {rest : List Value} (r : Row W g 28 (xs.flatMap NdF ++ rest).toArray) : RunsAt W (some ⟨g, 0, none⟩) xs := by
  intro i hi
  have hl := fmap_len NdF 4 NdF_len xs
  have hg : ∀ j, j < 4 → (xs.flatMap NdF ++ rest).toArray[i * 4 + j]? = (NdF xs[i])[j]? := fun j hj => by
    rw [List.getElem?_toArray, List.getElem?_append_left (by rw [hl]; omega), fmap_get NdF 4 NdF_len xs i j hi hj]
  refine ⟨g, 0, rfl, ?_, ?_, ?_, ?_⟩
  · have := r.cell (hg 0 (by omega)); simpa using this
  · have := r.cell (hg 1 (by omega)); simpa using this
  · have := r.cell (hg 2 (by omega)); simpa using this
  · have := r.cell (hg 3 (by omega)); simpa using this
set_option maxHeartbeats 6400000 in
set_option maxRecDepth 100000 in
theorem lanesKept_any (AA : Option Addr) (L capA : Nat) (qs : List AskD) (w : World) (hL : L ≤ 9223372036854775807) (hl : qs.length = min L 20) (ha : AsksAt w AA qs) :
    Calls Try.prog 11 #[.slice AA L capA] w (TruePost w) := by
  have HA := hide ha
  have HK := hide known_any
  clear ha
  have hmk : ∀ u : World, (Instr.makeSlice 29 (.int .i64 40) (.int .i64 40)).run Try.prog u =
      .ok (.slice (some ⟨u.heap.size, 0, none⟩) 40 40) (u.alloc (.cells (madeCells #[.int .i64 0, .string ⟨#[]⟩, .int .u64 0, .int .u64 0] 160) 28)) := fun u => by
    obtain ⟨i0, hi, hz0, hz1, hz2⟩ := info_parts Ndinfo
    have h := run_make (P := Try.prog) u 29 28 i0 (.agg #[.int .i64 0, .string ⟨#[]⟩, .int .u64 0, .int .u64 0]) Try.underlying29 hi hz0 .i64 .i64 40 40 (by omega) (Int.le_refl _) (by rw [hz2]; omega) (by omega)
    simpa [hz1, Value.cells] using h
  have hK0 : KpAt w ((w.alloc (.cells #[.slice none 0 0, .slice none 0 0, .int .i64 0, .bool false] 62)).alloc (.cells (madeCells #[.int .i64 0, .string ⟨#[]⟩, .int .u64 0, .int .u64 0] 160) 28)) 0 (fun _ => False) := by
    have ra := Row.alloc_new w #[.slice none 0 0, .slice none 0 0, .int .i64 0, .bool false] 62
    have rb := Row.alloc_new (w.alloc (.cells #[.slice none 0 0, .slice none 0 0, .int .i64 0, .bool false] 62)) (madeCells #[.int .i64 0, .string ⟨#[]⟩, .int .u64 0, .int .u64 0] 160) 28
    simp only [World.size_alloc] at rb
    refine ⟨((Below.refl w.heap.size w).alloc (Nat.le_refl _) _).alloc (by simp) _, ⟨_, rb, by rw [size_madeCells]⟩, ⟨.slice none 0 0, .slice none 0 0, 0, [], (· = w.heap.size), Nat.le_refl _, ⟨ra.alloc _, .inl ⟨rfl, rfl⟩, .inl ⟨rfl, rfl⟩, fun e he => (by cases he), rfl, fun b hb => (by cases hb), fun b hb => (by cases hb), .nil, fun b hb => (by cases hb; simp; omega), fun e he => (by cases he)⟩, fun b e => ⟨by omega, by omega, fun z => z⟩⟩, fun _ z => z.elim⟩
  have HK0 := hide hK0
  clear hK0
  go_enter Try.func11, Try.ntmps11
  go_wp2_with fail
  clear hmk
  go_loopw [5] (fun v5 W => ∃ i : Nat, v5 = .int .i64 i ∧ i ≤ qs.length ∧ Hid (KpAt w W (2 * i) (fun _ => False))) (fun v _ => qs.length - (intOf v).toNat)
  case atStart => exact ⟨0, rfl, Nat.zero_le _, HK0⟩
  case round =>
    obtain ⟨i, rfl, hi', KP⟩ := hrel
    have hi0 : (0 : Int) ≤ (i : Int) := by omega
    by_cases hi : i < qs.length
    · have hi1 : (i : Int) < (L : Int) := by omega
      have hi2 : (i : Int) < 20 := by omega
      have HA2 := hide (HA.out.below KP.out.bel)
      obtain ⟨b, off, rfl, c0, c1, c2, c3, c4, hr, ok⟩ := HA2.out i hi
      obtain ⟨q, hq⟩ : ∃ q, q = qs[i] := ⟨_, rfl⟩
      rw [← hq] at c0 c1 c2 c3 c4 hr ok
      have hn1 := ok.n1
      have hn2 := ok.nc
      have HRw : Hid (RunsAt w q.A q.xs) := hide (by obtain ⟨_, _, _, _, _, _, _, _, r, _⟩ := HA.out i hi; rw [hq]; exact r)
      clear hq HA2
      have hxl := ok.xl
      by_cases h40 : 40 < q.n
      · have hd : decide ((40 : Int) < (q.n : Int)) = true := decide_eq_true (by omega)
        have rX := Row.alloc_new wr #[.int .u64 q.m, .int .i64 q.lp, .int .u64 q.lc, .bool q.nd, .slice q.A 40 q.cap] 64
        have rY := Row.alloc_new (wr.alloc (.cells #[.int .u64 q.m, .int .i64 q.lp, .int .u64 q.lc, .bool q.nd, .slice q.A 40 q.cap] 64)) #[.int .i64 q.lp, .int .u64 q.lc, .bool q.nd, .slice q.A 40 q.cap] 31
        have hxn : q.xs.length = 40 := by omega
        have hu : Upd (fun _ => False) wr ((wr.alloc (.cells #[.int .u64 q.m, .int .i64 q.lp, .int .u64 q.lc, .bool q.nd, .slice q.A 40 q.cap] 64)).alloc (.cells #[.int .i64 q.lp, .int .u64 q.lc, .bool q.nd, .slice q.A 40 q.cap] 31)) :=
          (Upd.alloc wr _ (S := fun _ => False)).trans (Upd.alloc _ _ (S := fun _ => False)) (fun _ e => e.elim)
        go_wp2_with fail
        have HXY : Hid (XyAt ((wr.alloc (.cells #[.int .u64 q.m, .int .i64 q.lp, .int .u64 q.lc, .bool q.nd, .slice q.A 40 q.cap] 64)).alloc (.cells #[.int .i64 q.lp, .int .u64 q.lc, .bool q.nd, .slice q.A 40 q.cap] 31)) wr.heap.size (wr.heap.size + 1) q) :=
          hide ⟨by have := rX.alloc (.cells #[.int .i64 q.lp, .int .u64 q.lc, .bool q.nd, .slice q.A 40 q.cap] 31); rw [hxn]; exact this, _, by simpa using rY⟩
        have HKP := hide (KP.out.fresh (Z := fun b => b = wr.heap.size ∨ b = wr.heap.size + 1) hu (fun _ e => e.elim) (fun b e => by simp; omega))
        have HRu := hide (hr.below (hu.below (B := wr.heap.size) (fun _ e => e.elim) (Nat.le_refl _)))
        clear rX rY hu hr
        generalize hww : (wr.alloc (.cells #[.int .u64 q.m, .int .i64 q.lp, .int .u64 q.lc, .bool q.nd, .slice q.A 40 q.cap] 64)).alloc (.cells #[.int .i64 q.lp, .int .u64 q.lc, .bool q.nd, .slice q.A 40 q.cap] 31) = W1 at *
        clear hww c0 c1 c2 c3 c4
        have HOk := hide ok
        have hx40 : q.xs.length ≤ 40 := by omega
        have hgl : w.heap.size + 1 < wr.heap.size := by obtain ⟨cur, hr, _⟩ := KP.out.buf; exact hr.lt
        have HFl : Hid (∀ W g, RunsAt W (some ⟨g, 0, none⟩) q.xs → Calls Try.prog 12 #[.int .u64 q.m, laneV q.lp q.lc q.nd (some ⟨g, 0, none⟩) q.xs.length 40] W (FlatPost q.m q.xs q.nd W)) := hide (fun W g h => flatten_any q.m q.lp q.lc q.nd _ _ q.xs W ok.m0 ok.m1 (by omega) h ok.xok)
        have HRf : Hid (∀ W, RunsAt W q.A q.xs → Calls Try.prog 30 #[.int .u64 q.m, laneV q.lp q.lc q.nd q.A q.xs.length q.cap] W (FlatPost q.m q.xs q.nd W)) := hide (fun W h => refFlatten_any q.m q.lp q.lc q.nd _ _ q.xs W ok.m0 ok.m1 (by omega) h ok.xok)
        clear ok hxl hxn hd hn1 hn2
        generalize hwo : wr = wo at *
        clear hwo
        go_loopw [8] (fun v8 W => ∃ k : Nat, v8 = .int .i64 k ∧ k ≤ 2 ∧ Hid (KpAt w W (2 * i + k) (fun b => b = wo.heap.size ∨ b = wo.heap.size + 1)) ∧ Hid (XyAt W wo.heap.size (wo.heap.size + 1) q) ∧ Hid (RunsAt W q.A q.xs)) (fun v _ => 2 - (intOf v).toNat)
        case atStart => exact ⟨0, rfl, by omega, HKP, HXY, HRu⟩
        case round =>
          obtain ⟨k, rfl, hk', KP3, XY3, HR3⟩ := hrel
          have hk0 : (0 : Int) ≤ (k : Int) := by omega
          by_cases hk : k < 2
          · have hk1 : (k : Int) < 2 := by omega
            obtain ⟨cur, hrb, hsz⟩ := KP3.out.buf
            have x0 := XY3.out.rx.cell (o := 0) rfl
            have x1 := XY3.out.rx.cell (o := 1) rfl
            have x2 := XY3.out.rx.cell (o := 2) rfl
            have x3 := XY3.out.rx.cell (o := 3) rfl
            have x4 := XY3.out.rx.cell (o := 4) rfl
            have hcp := run_copy_wide (P := Try.prog) wr 29 3 28 (w.heap.size + 1) 40 40 4 q.xs.length q.A q.xs.length q.cap cur 28 (q.xs.flatMap NdF) Try.underlying29 (by kernel_rfl) hrb (by show _ = min _ _; omega) (fmap_len NdF 4 NdF_len q.xs) (Ndsrc HR3.out) (by rw [hsz, fmap_len NdF 4 NdF_len]; omega) (Ndone q.xs)
            have hlc : (q.xs.flatMap NdF ++ cur.toList.drop (q.xs.flatMap NdF).length).toArray.size = 160 := by
              have := fmap_len NdF 4 NdF_len q.xs
              simp only [List.size_toArray, List.length_append, List.length_drop, Array.length_toList, this, hsz]
              omega
            have rb2 := hrb.setRow (q.xs.flatMap NdF ++ cur.toList.drop (q.xs.flatMap NdF).length).toArray
            have hu1 := Upd.setRow wr (w.heap.size + 1) (q.xs.flatMap NdF ++ cur.toList.drop (q.xs.flatMap NdF).length).toArray
            have hrr := runs_row rb2
            have KP4 := hide (KP3.out.write hu1 rb2 hlc)
            have XY4 := hide (XY3.out.upd hu1 (fun b e => by omega))
            clear hrb hsz hlc
            generalize wr.setRow (w.heap.size + 1) (q.xs.flatMap NdF ++ cur.toList.drop (q.xs.flatMap NdF).length).toArray = w4 at *
            have z0 := XY4.out.rx.cell (o := 0) rfl
            have z4 := XY4.out.rx.cell (o := 4) rfl
            obtain ⟨vy, ry⟩ := XY4.out.ry
            have y0 := ry.cell (o := 0) rfl
            have y1 := ry.cell (o := 1) rfl
            have y2 := ry.cell (o := 2) rfl
            have y3 := ry.cell (o := 3) rfl
            have f3 := ry.frozen 3
            have hu2 := Upd.setCell w4 ⟨wo.heap.size + 1, 3, none⟩ (.slice (some ⟨w.heap.size + 1, 0, none⟩) q.xs.length 40) (S := (· = wo.heap.size + 1)) rfl
            have KP5 := hide (KP4.out.upd hu2 (fun b e => ⟨.inr e, by omega⟩))
            have XY5 : Hid (XyAt (w4.setCell ⟨wo.heap.size + 1, 3, none⟩ (.slice (some ⟨w.heap.size + 1, 0, none⟩) q.xs.length 40)) wo.heap.size (wo.heap.size + 1) q) := hide ⟨hu2.row XY4.out.rx (by simp), _, by simpa using ry.setCell 3 (.slice (some ⟨w.heap.size + 1, 0, none⟩) q.xs.length 40)⟩
            have hr5 := hide (hrr.upd hu2 (fun b off e => by simp at e; omega))
            clear hu2 ry rb2 hu1 hrr
            go_wp2_with fail
            clear z0 z4 y0 y1 y2 y3 f3 x0 x1 x2 x3 x4 hcp
            generalize w4.setCell ⟨wo.heap.size + 1, 3, none⟩ (.slice (some ⟨w.heap.size + 1, 0, none⟩) q.xs.length 40) = w5 at *
            refine (HFl.out w5 _ hr5.out).mono ?_
            rintro e w6 ⟨v, rfl, hv, hb⟩
            have hu6 : Upd (fun _ => False) w5 w6 := Upd.of_below hb (fun b e1 e2 => by omega)
            have KP6 : Hid (KpAt w w6 (2 * i + k) (fun b => (b = wo.heap.size ∨ b = wo.heap.size + 1) ∨ v.ownBlock = some b)) := hide (KP5.out.join hu6 (fun b e => by rcases e with e | e; exact .inl e; exact .inr ⟨(hv.lt b e).2, (hv.lt b e).1⟩))
            have XY6 := hide (XY5.out.upd hu6 (fun _ e => e.elim))
            have hw5 := KP5.out.bel.size
            have hvz := hide (fun b hb => (hv.lt b hb).2)
            have HV := hide (hv.mono (Nat.zero_le _))
            clear hu6 hb hv
            have hwv : ∀ b, v.ownBlock = some b → w5.heap.size ≤ b := hvz.out
            have HWv := hide hwv
            have hw5z := KP5.out.zl
            have Hzl := hide hw5z
            have hgl5 : w.heap.size + 1 < w5.heap.size := by obtain ⟨cur, hr, _⟩ := KP5.out.buf; exact hr.lt
            clear hwv hw5z
            go_wp2_with fail
            go_loopw [12] (fun v12 W => ∃ j : Nat, v12 = .int .i64 j ∧ j ≤ 40 ∧ Hid (KpAt w W (2 * i + k) (fun b => (b = wo.heap.size ∨ b = wo.heap.size + 1) ∨ v.ownBlock = some b)) ∧ Hid (XyAt W wo.heap.size (wo.heap.size + 1) q) ∧ Hid (SVal W 0 v (flatL q.m q.xs q.nd).1)) (fun v _ => 40 - (intOf v).toNat)
            case atStart => exact ⟨0, rfl, by omega, KP6, XY6, HV⟩
            case round =>
              clear KP3 XY3 HR3 KP4 XY4 KP5 XY5 hr5 KP6 XY6 HV
              generalize wr = W7 at *
              obtain ⟨j, rfl, hj', KP7, XY7, HV7⟩ := hrel
              have hj0 : (0 : Int) ≤ (j : Int) := by omega
              by_cases hj : j < 40
              · have hj1 : (j : Int) < 40 := by omega
                obtain ⟨cb, hrb, hsz⟩ := KP7.out.buf
                have r1 := hrb.setCell (j * 4) (.int .i64 0)
                have r2 := r1.setCell (j * 4 + 1) (.string ⟨#[119, 114, 105, 116, 116, 101, 110]⟩)
                have r3 := r2.setCell (j * 4 + 2) (.int .u64 1)
                have r4 := r3.setCell (j * 4 + 3) (.int .u64 1)
                obtain ⟨q0, hq0⟩ : ∃ v, cb[j * 4]? = some v := ⟨_, Array.getElem?_eq_getElem (by omega)⟩
                obtain ⟨q1, hq1⟩ : ∃ v, (cb.setIfInBounds (j * 4) (.int .i64 0))[j * 4 + 1]? = some v := ⟨_, Array.getElem?_eq_getElem (by simp; omega)⟩
                obtain ⟨q2, hq2⟩ : ∃ v, ((cb.setIfInBounds (j * 4) (.int .i64 0)).setIfInBounds (j * 4 + 1) (.string ⟨#[119, 114, 105, 116, 116, 101, 110]⟩))[j * 4 + 2]? = some v := ⟨_, Array.getElem?_eq_getElem (by simp; omega)⟩
                obtain ⟨q3, hq3⟩ : ∃ v, (((cb.setIfInBounds (j * 4) (.int .i64 0)).setIfInBounds (j * 4 + 1) (.string ⟨#[119, 114, 105, 116, 116, 101, 110]⟩)).setIfInBounds (j * 4 + 2) (.int .u64 1))[j * 4 + 3]? = some v := ⟨_, Array.getElem?_eq_getElem (by simp; omega)⟩
                have d0 := hrb.cell hq0
                have g0 := hrb.frozen (j * 4)
                have d1 := r1.cell hq1
                have g1 := r1.frozen (j * 4 + 1)
                have d2 := r2.cell hq2
                have g2 := r2.frozen (j * 4 + 2)
                have d3 := r3.cell hq3
                have g3 := r3.frozen (j * 4 + 3)
                have hu8 := (((Upd.setCell W7 ⟨w.heap.size + 1, j * 4, none⟩ (.int .i64 0) (S := (· = w.heap.size + 1)) rfl).trans (Upd.setCell _ ⟨w.heap.size + 1, j * 4 + 1, none⟩ (.string ⟨#[119, 114, 105, 116, 116, 101, 110]⟩) (S := (· = w.heap.size + 1)) rfl) (fun _ e => .inl e)).trans (Upd.setCell _ ⟨w.heap.size + 1, j * 4 + 2, none⟩ (.int .u64 1) (S := (· = w.heap.size + 1)) rfl) (fun _ e => .inl e)).trans (Upd.setCell _ ⟨w.heap.size + 1, j * 4 + 3, none⟩ (.int .u64 1) (S := (· = w.heap.size + 1)) rfl) (fun _ e => .inl e)
                have KP8 := hide (KP7.out.write hu8 r4 (by simpa using hsz))
                have XY8 := hide (XY7.out.upd hu8 (fun b e => by omega))
                have HV8 := hide (HV7.out.upd hu8 (fun b e1 e2 => by have := HWv.out b e1; omega))
                clear hrb hsz r1 r2 r3 r4 hq0 hq1 hq2 hq3 hu8
                go_wp2_with fail
                go_roundw
                case rel => exact ⟨j + 1, by go_num, by omega, KP8, XY8, HV8⟩
                case measure => simp [intOf]; omega
              · have x0 := XY7.out.rx.cell (o := 0) rfl
                have x1 := XY7.out.rx.cell (o := 1) rfl
                have x2 := XY7.out.rx.cell (o := 2) rfl
                have x3 := XY7.out.rx.cell (o := 3) rfl
                have x4 := XY7.out.rx.cell (o := 4) rfl
                go_wp2_with fail
                refine (HRf.out W7 (HRw.out.below KP7.out.bel)).mono ?_
                rintro e w8 ⟨v2, rfl, hv2, hb8⟩
                obtain ⟨A1, k1, hve, ha1⟩ := sval_at (HV7.out.upd (Upd.of_below hb8 (S := fun _ => False) (fun b e1 e2 => by omega)) (fun _ _ e => e))
                obtain ⟨A2, k2, rfl, ha2⟩ := sval_at hv2
                have hu8 : Upd (fun _ => False) W7 w8 := Upd.of_below hb8 (fun b e1 e2 => by omega)
                have KP8 := hide (KP7.out.upd hu8 (fun _ e => e.elim))
                have XY8 := hide (XY7.out.upd hu8 (fun _ e => e.elim))
                have HV8 := hide (HV7.out.upd hu8 (fun _ _ e => e))
                have HA1 := hide ha1
                have HA2 := hide ha2
                have Hve := hide hve
                have FL := hide (show (flatL q.m q.xs q.nd).1.length ≤ 4096 from flatL_len)
                clear hu8 hb8 hv2 ha1 ha2 x0 x1 x2 x3 x4
                go_wp2_with fail
                refine (Slsame A1 A2 k1 k2 (flatL q.m q.xs q.nd).1 w8 (by have := FL.out; omega) HA1.out HA2.out).mono ?_
                rintro e w9 ⟨rfl, hb9⟩
                have hu9 : Upd (fun _ => False) w8 w9 := Upd.of_below hb9 (fun b e1 e2 => by omega)
                have KP9 := hide (KP8.out.upd hu9 (fun _ e => e.elim))
                have XY9 := hide (XY8.out.upd hu9 (fun _ e => e.elim))
                have HV9 := hide (HV8.out.upd hu9 (fun _ _ e => e))
                clear hu9 hb9
                have HKe := hide (kept_any (Z := fun b => b = wo.heap.size ∨ b = wo.heap.size + 1) KP9.out (by omega) HV9.out FL.out (fun b e => by have := HWv.out b e; have := Hzl.out (wo.heap.size + 1) (.inr rfl); exact ⟨by omega, by omega⟩))
                rw [Hve.out] at HKe
                go_wp2_with fail
                refine HKe.out.mono ?_
                rintro e w10 ⟨rfl, hk10, F, hu10, hF10⟩
                have KP10 := hide hk10
                have XY10 := hide (XY9.out.upd hu10 (fun b e => by have := hF10 b e; omega))
                clear hk10 hu10 hF10
                have HR10 := hide (HRw.out.below KP10.out.bel)
                go_wp2_with fail
                go_roundw
                case rel => exact ⟨k + 1, by go_num, by omega, KP10, XY10, HR10⟩
                case measure => simp [intOf]; omega
          · obtain rfl : k = 2 := by omega
            have KP4 := hide (KP3.out.more (m := 2 * (i + 1)) (Z' := fun _ => False) (by omega) (fun _ z => z.elim))
            go_wp2_with fail
            go_roundw
            case rel => exact ⟨i + 1, by go_num, by omega, KP4⟩
            case measure => simp [intOf]; omega
      · have hd : decide ((40 : Int) < (q.n : Int)) = false := decide_eq_false (by omega)
        have rX := Row.alloc_new wr #[.int .u64 q.m, .int .i64 q.lp, .int .u64 q.lc, .bool q.nd, .slice q.A q.n q.cap] 64
        have rY := Row.alloc_new (wr.alloc (.cells #[.int .u64 q.m, .int .i64 q.lp, .int .u64 q.lc, .bool q.nd, .slice q.A q.n q.cap] 64)) #[.int .i64 q.lp, .int .u64 q.lc, .bool q.nd, .slice q.A q.n q.cap] 31
        have hxn : q.xs.length = q.n := by omega
        have hu : Upd (fun _ => False) wr ((wr.alloc (.cells #[.int .u64 q.m, .int .i64 q.lp, .int .u64 q.lc, .bool q.nd, .slice q.A q.n q.cap] 64)).alloc (.cells #[.int .i64 q.lp, .int .u64 q.lc, .bool q.nd, .slice q.A q.n q.cap] 31)) :=
          (Upd.alloc wr _ (S := fun _ => False)).trans (Upd.alloc _ _ (S := fun _ => False)) (fun _ e => e.elim)
        go_wp2_with fail
        have HXY : Hid (XyAt ((wr.alloc (.cells #[.int .u64 q.m, .int .i64 q.lp, .int .u64 q.lc, .bool q.nd, .slice q.A q.n q.cap] 64)).alloc (.cells #[.int .i64 q.lp, .int .u64 q.lc, .bool q.nd, .slice q.A q.n q.cap] 31)) wr.heap.size (wr.heap.size + 1) q) :=
          hide ⟨by have := rX.alloc (.cells #[.int .i64 q.lp, .int .u64 q.lc, .bool q.nd, .slice q.A q.n q.cap] 31); rw [hxn]; exact this, _, by simpa using rY⟩
        have HKP := hide (KP.out.fresh (Z := fun b => b = wr.heap.size ∨ b = wr.heap.size + 1) hu (fun _ e => e.elim) (fun b e => by simp; omega))
        have HRu := hide (hr.below (hu.below (B := wr.heap.size) (fun _ e => e.elim) (Nat.le_refl _)))
        clear rX rY hu hr
        generalize hww : (wr.alloc (.cells #[.int .u64 q.m, .int .i64 q.lp, .int .u64 q.lc, .bool q.nd, .slice q.A q.n q.cap] 64)).alloc (.cells #[.int .i64 q.lp, .int .u64 q.lc, .bool q.nd, .slice q.A q.n q.cap] 31) = W1 at *
        clear hww c0 c1 c2 c3 c4
        have HOk := hide ok
        have hx40 : q.xs.length ≤ 40 := by omega
        have hgl : w.heap.size + 1 < wr.heap.size := by obtain ⟨cur, hr, _⟩ := KP.out.buf; exact hr.lt
        have HFl : Hid (∀ W g, RunsAt W (some ⟨g, 0, none⟩) q.xs → Calls Try.prog 12 #[.int .u64 q.m, laneV q.lp q.lc q.nd (some ⟨g, 0, none⟩) q.xs.length 40] W (FlatPost q.m q.xs q.nd W)) := hide (fun W g h => flatten_any q.m q.lp q.lc q.nd _ _ q.xs W ok.m0 ok.m1 (by omega) h ok.xok)
        have HRf : Hid (∀ W, RunsAt W q.A q.xs → Calls Try.prog 30 #[.int .u64 q.m, laneV q.lp q.lc q.nd q.A q.xs.length q.cap] W (FlatPost q.m q.xs q.nd W)) := hide (fun W h => refFlatten_any q.m q.lp q.lc q.nd _ _ q.xs W ok.m0 ok.m1 (by omega) h ok.xok)
        clear ok hxl hxn hd hn1 hn2
        generalize hwo : wr = wo at *
        clear hwo
        go_loopw [8] (fun v8 W => ∃ k : Nat, v8 = .int .i64 k ∧ k ≤ 2 ∧ Hid (KpAt w W (2 * i + k) (fun b => b = wo.heap.size ∨ b = wo.heap.size + 1)) ∧ Hid (XyAt W wo.heap.size (wo.heap.size + 1) q) ∧ Hid (RunsAt W q.A q.xs)) (fun v _ => 2 - (intOf v).toNat)
        case atStart => exact ⟨0, rfl, by omega, HKP, HXY, HRu⟩
        case round =>
          obtain ⟨k, rfl, hk', KP3, XY3, HR3⟩ := hrel
          have hk0 : (0 : Int) ≤ (k : Int) := by omega
          by_cases hk : k < 2
          · have hk1 : (k : Int) < 2 := by omega
            obtain ⟨cur, hrb, hsz⟩ := KP3.out.buf
            have x0 := XY3.out.rx.cell (o := 0) rfl
            have x1 := XY3.out.rx.cell (o := 1) rfl
            have x2 := XY3.out.rx.cell (o := 2) rfl
            have x3 := XY3.out.rx.cell (o := 3) rfl
            have x4 := XY3.out.rx.cell (o := 4) rfl
            have hcp := run_copy_wide (P := Try.prog) wr 29 3 28 (w.heap.size + 1) 40 40 4 q.xs.length q.A q.xs.length q.cap cur 28 (q.xs.flatMap NdF) Try.underlying29 (by kernel_rfl) hrb (by show _ = min _ _; omega) (fmap_len NdF 4 NdF_len q.xs) (Ndsrc HR3.out) (by rw [hsz, fmap_len NdF 4 NdF_len]; omega) (Ndone q.xs)
            have hlc : (q.xs.flatMap NdF ++ cur.toList.drop (q.xs.flatMap NdF).length).toArray.size = 160 := by
              have := fmap_len NdF 4 NdF_len q.xs
              simp only [List.size_toArray, List.length_append, List.length_drop, Array.length_toList, this, hsz]
              omega
            have rb2 := hrb.setRow (q.xs.flatMap NdF ++ cur.toList.drop (q.xs.flatMap NdF).length).toArray
            have hu1 := Upd.setRow wr (w.heap.size + 1) (q.xs.flatMap NdF ++ cur.toList.drop (q.xs.flatMap NdF).length).toArray
            have hrr := runs_row rb2
            have KP4 := hide (KP3.out.write hu1 rb2 hlc)
            have XY4 := hide (XY3.out.upd hu1 (fun b e => by omega))
            clear hrb hsz hlc
            generalize wr.setRow (w.heap.size + 1) (q.xs.flatMap NdF ++ cur.toList.drop (q.xs.flatMap NdF).length).toArray = w4 at *
            have z0 := XY4.out.rx.cell (o := 0) rfl
            have z4 := XY4.out.rx.cell (o := 4) rfl
            obtain ⟨vy, ry⟩ := XY4.out.ry
            have y0 := ry.cell (o := 0) rfl
            have y1 := ry.cell (o := 1) rfl
            have y2 := ry.cell (o := 2) rfl
            have y3 := ry.cell (o := 3) rfl
            have f3 := ry.frozen 3
            have hu2 := Upd.setCell w4 ⟨wo.heap.size + 1, 3, none⟩ (.slice (some ⟨w.heap.size + 1, 0, none⟩) q.xs.length 40) (S := (· = wo.heap.size + 1)) rfl
            have KP5 := hide (KP4.out.upd hu2 (fun b e => ⟨.inr e, by omega⟩))
            have XY5 : Hid (XyAt (w4.setCell ⟨wo.heap.size + 1, 3, none⟩ (.slice (some ⟨w.heap.size + 1, 0, none⟩) q.xs.length 40)) wo.heap.size (wo.heap.size + 1) q) := hide ⟨hu2.row XY4.out.rx (by simp), _, by simpa using ry.setCell 3 (.slice (some ⟨w.heap.size + 1, 0, none⟩) q.xs.length 40)⟩
            have hr5 := hide (hrr.upd hu2 (fun b off e => by simp at e; omega))
            clear hu2 ry rb2 hu1 hrr
            go_wp2_with fail
            clear z0 z4 y0 y1 y2 y3 f3 x0 x1 x2 x3 x4 hcp
            generalize w4.setCell ⟨wo.heap.size + 1, 3, none⟩ (.slice (some ⟨w.heap.size + 1, 0, none⟩) q.xs.length 40) = w5 at *
            refine (HFl.out w5 _ hr5.out).mono ?_
            rintro e w6 ⟨v, rfl, hv, hb⟩
            have hu6 : Upd (fun _ => False) w5 w6 := Upd.of_below hb (fun b e1 e2 => by omega)
            have KP6 : Hid (KpAt w w6 (2 * i + k) (fun b => (b = wo.heap.size ∨ b = wo.heap.size + 1) ∨ v.ownBlock = some b)) := hide (KP5.out.join hu6 (fun b e => by rcases e with e | e; exact .inl e; exact .inr ⟨(hv.lt b e).2, (hv.lt b e).1⟩))
            have XY6 := hide (XY5.out.upd hu6 (fun _ e => e.elim))
            have hw5 := KP5.out.bel.size
            have hvz := hide (fun b hb => (hv.lt b hb).2)
            have HV := hide (hv.mono (Nat.zero_le _))
            clear hu6 hb hv
            have hwv : ∀ b, v.ownBlock = some b → w5.heap.size ≤ b := hvz.out
            have HWv := hide hwv
            have hw5z := KP5.out.zl
            have Hzl := hide hw5z
            have hgl5 : w.heap.size + 1 < w5.heap.size := by obtain ⟨cur, hr, _⟩ := KP5.out.buf; exact hr.lt
            clear hwv hw5z
            go_wp2_with fail
            go_loopw [12] (fun v12 W => ∃ j : Nat, v12 = .int .i64 j ∧ j ≤ 40 ∧ Hid (KpAt w W (2 * i + k) (fun b => (b = wo.heap.size ∨ b = wo.heap.size + 1) ∨ v.ownBlock = some b)) ∧ Hid (XyAt W wo.heap.size (wo.heap.size + 1) q) ∧ Hid (SVal W 0 v (flatL q.m q.xs q.nd).1)) (fun v _ => 40 - (intOf v).toNat)
            case atStart => exact ⟨0, rfl, by omega, KP6, XY6, HV⟩
            case round =>
              clear KP3 XY3 HR3 KP4 XY4 KP5 XY5 hr5 KP6 XY6 HV
              generalize wr = W7 at *
              obtain ⟨j, rfl, hj', KP7, XY7, HV7⟩ := hrel
              have hj0 : (0 : Int) ≤ (j : Int) := by omega
              by_cases hj : j < 40
              · have hj1 : (j : Int) < 40 := by omega
                obtain ⟨cb, hrb, hsz⟩ := KP7.out.buf
                have r1 := hrb.setCell (j * 4) (.int .i64 0)
                have r2 := r1.setCell (j * 4 + 1) (.string ⟨#[119, 114, 105, 116, 116, 101, 110]⟩)
                have r3 := r2.setCell (j * 4 + 2) (.int .u64 1)
                have r4 := r3.setCell (j * 4 + 3) (.int .u64 1)
                obtain ⟨q0, hq0⟩ : ∃ v, cb[j * 4]? = some v := ⟨_, Array.getElem?_eq_getElem (by omega)⟩
                obtain ⟨q1, hq1⟩ : ∃ v, (cb.setIfInBounds (j * 4) (.int .i64 0))[j * 4 + 1]? = some v := ⟨_, Array.getElem?_eq_getElem (by simp; omega)⟩
                obtain ⟨q2, hq2⟩ : ∃ v, ((cb.setIfInBounds (j * 4) (.int .i64 0)).setIfInBounds (j * 4 + 1) (.string ⟨#[119, 114, 105, 116, 116, 101, 110]⟩))[j * 4 + 2]? = some v := ⟨_, Array.getElem?_eq_getElem (by simp; omega)⟩
                obtain ⟨q3, hq3⟩ : ∃ v, (((cb.setIfInBounds (j * 4) (.int .i64 0)).setIfInBounds (j * 4 + 1) (.string ⟨#[119, 114, 105, 116, 116, 101, 110]⟩)).setIfInBounds (j * 4 + 2) (.int .u64 1))[j * 4 + 3]? = some v := ⟨_, Array.getElem?_eq_getElem (by simp; omega)⟩
                have d0 := hrb.cell hq0
                have g0 := hrb.frozen (j * 4)
                have d1 := r1.cell hq1
                have g1 := r1.frozen (j * 4 + 1)
                have d2 := r2.cell hq2
                have g2 := r2.frozen (j * 4 + 2)
                have d3 := r3.cell hq3
                have g3 := r3.frozen (j * 4 + 3)
                have hu8 := (((Upd.setCell W7 ⟨w.heap.size + 1, j * 4, none⟩ (.int .i64 0) (S := (· = w.heap.size + 1)) rfl).trans (Upd.setCell _ ⟨w.heap.size + 1, j * 4 + 1, none⟩ (.string ⟨#[119, 114, 105, 116, 116, 101, 110]⟩) (S := (· = w.heap.size + 1)) rfl) (fun _ e => .inl e)).trans (Upd.setCell _ ⟨w.heap.size + 1, j * 4 + 2, none⟩ (.int .u64 1) (S := (· = w.heap.size + 1)) rfl) (fun _ e => .inl e)).trans (Upd.setCell _ ⟨w.heap.size + 1, j * 4 + 3, none⟩ (.int .u64 1) (S := (· = w.heap.size + 1)) rfl) (fun _ e => .inl e)
                have KP8 := hide (KP7.out.write hu8 r4 (by simpa using hsz))
                have XY8 := hide (XY7.out.upd hu8 (fun b e => by omega))
                have HV8 := hide (HV7.out.upd hu8 (fun b e1 e2 => by have := HWv.out b e1; omega))
                clear hrb hsz r1 r2 r3 r4 hq0 hq1 hq2 hq3 hu8
                go_wp2_with fail
                go_roundw
                case rel => exact ⟨j + 1, by go_num, by omega, KP8, XY8, HV8⟩
                case measure => simp [intOf]; omega
              · have x0 := XY7.out.rx.cell (o := 0) rfl
                have x1 := XY7.out.rx.cell (o := 1) rfl
                have x2 := XY7.out.rx.cell (o := 2) rfl
                have x3 := XY7.out.rx.cell (o := 3) rfl
                have x4 := XY7.out.rx.cell (o := 4) rfl
                go_wp2_with fail
                refine (HRf.out W7 (HRw.out.below KP7.out.bel)).mono ?_
                rintro e w8 ⟨v2, rfl, hv2, hb8⟩
                obtain ⟨A1, k1, hve, ha1⟩ := sval_at (HV7.out.upd (Upd.of_below hb8 (S := fun _ => False) (fun b e1 e2 => by omega)) (fun _ _ e => e))
                obtain ⟨A2, k2, rfl, ha2⟩ := sval_at hv2
                have hu8 : Upd (fun _ => False) W7 w8 := Upd.of_below hb8 (fun b e1 e2 => by omega)
                have KP8 := hide (KP7.out.upd hu8 (fun _ e => e.elim))
                have XY8 := hide (XY7.out.upd hu8 (fun _ e => e.elim))
                have HV8 := hide (HV7.out.upd hu8 (fun _ _ e => e))
                have HA1 := hide ha1
                have HA2 := hide ha2
                have Hve := hide hve
                have FL := hide (show (flatL q.m q.xs q.nd).1.length ≤ 4096 from flatL_len)
                clear hu8 hb8 hv2 ha1 ha2 x0 x1 x2 x3 x4
                go_wp2_with fail
                refine (Slsame A1 A2 k1 k2 (flatL q.m q.xs q.nd).1 w8 (by have := FL.out; omega) HA1.out HA2.out).mono ?_
                rintro e w9 ⟨rfl, hb9⟩
                have hu9 : Upd (fun _ => False) w8 w9 := Upd.of_below hb9 (fun b e1 e2 => by omega)
                have KP9 := hide (KP8.out.upd hu9 (fun _ e => e.elim))
                have XY9 := hide (XY8.out.upd hu9 (fun _ e => e.elim))
                have HV9 := hide (HV8.out.upd hu9 (fun _ _ e => e))
                clear hu9 hb9
                have HKe := hide (kept_any (Z := fun b => b = wo.heap.size ∨ b = wo.heap.size + 1) KP9.out (by omega) HV9.out FL.out (fun b e => by have := HWv.out b e; have := Hzl.out (wo.heap.size + 1) (.inr rfl); exact ⟨by omega, by omega⟩))
                rw [Hve.out] at HKe
                go_wp2_with fail
                refine HKe.out.mono ?_
                rintro e w10 ⟨rfl, hk10, F, hu10, hF10⟩
                have KP10 := hide hk10
                have XY10 := hide (XY9.out.upd hu10 (fun b e => by have := hF10 b e; omega))
                clear hk10 hu10 hF10
                have HR10 := hide (HRw.out.below KP10.out.bel)
                go_wp2_with fail
                go_roundw
                case rel => exact ⟨k + 1, by go_num, by omega, KP10, XY10, HR10⟩
                case measure => simp [intOf]; omega
          · obtain rfl : k = 2 := by omega
            have KP4 := hide (KP3.out.more (m := 2 * (i + 1)) (Z' := fun _ => False) (by omega) (fun _ z => z.elim))
            go_wp2_with fail
            go_roundw
            case rel => exact ⟨i + 1, by go_num, by omega, KP4⟩
            case measure => simp [intOf]; omega
    · obtain ⟨lv, wv, h, E, F, hE, hb, hF⟩ := KP.out.bk
      have HAp := hide (apart_any _ lv wv h E F wr hb (by omega))
      have HF := hide hF
      have ll := KP.out.bel
      have HBl := hide ll
      have nlt : ¬ ((i : Int) < (L : Int)) ∨ ¬ ((i : Int) < 20) := by omega
      clear hb hE hF ll
      go_wp2_with fail
      all_goals
        refine HAp.out.mono ?_
        rintro e w2 ⟨rfl, hu⟩
        have HB2 := hide (HBl.out.trans (hu.below (fun b e => (HF.out b e).1) HBl.out.size))
        clear hu
        go_wp2_with fail
        refine (HK.out w2).mono ?_
        rintro e w3 ⟨rfl, hb⟩
        have HB3 := hide (HB2.out.trans (hb.mono HB2.out.size))
        clear hb
        go_wp2_with fail
        go_ret
        exact ⟨rfl, HB3.out⟩
end LA
end Go.Proofs.Ytenfikfgliljmaa
