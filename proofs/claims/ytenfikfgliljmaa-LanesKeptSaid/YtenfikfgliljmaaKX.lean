/- bulkheadbook's Keep. -/
import Derived.Test.YtenfikfgliljmaaKF
import Derived.Test.YtenfikfgliljmaaMX
import Derived.Deep.RegionLaw
import Derived.Deep.RegionHeld3
import Derived.StillTailTactics
namespace Go.Proofs.Ytenfikfgliljmaa
open Go.RowKit
namespace LA
theorem und60 : Try.prog.underlying 60 = some (.slice 22) := by kernel_rfl
theorem info22 : (Try.prog.info? 22).map (fun i => (i.zero, i.size, i.bytes)) = some (some (.slice none 0 0), 1, 24) := by kernel_rfl
/-- What Keep leaves: of the book's blocks alone something may have turned. -/
def KeepPost (p : Nat) (v : Value) (n : Nat) (F : Nat → Prop) (w : World) (e : Ending) (w' : World) : Prop :=
  e = .returned (.tuple #[]) ∧ ∃ lv wv h E F', E.length ≤ n ∧ BkAt w' p lv wv h E F' ∧ Upd F w w' ∧ ∀ b, F' b → F b ∨ v.ownBlock = some b ∨ w.heap.size ≤ b
/-- How many lists the book holds. -/
def bookLen (w : World) (p : Nat) : Nat := match w.cell? ⟨p, 0, none⟩ with
  | some (.slice _ n _) => n
  | _ => 0
theorem BkAt.bookLen {w : World} {p : Nat} {lv wv : Value} {h : Int} {E : List Ent} {F : Nat → Prop} (k : BkAt w p lv wv h E F) : bookLen w p = E.length := by
  obtain ⟨A, c, e⟩ := k.ls.len
  unfold LA.bookLen
  rw [k.box.cell (o := 0) (v := lv) rfl, e]
  simp
/-- Behind the two appends. -/
theorem keep_mem {p g cap k1 k22 g20 cap20 : Nat} {cur : Array Value} {ys : List Slot} {lv wv : Value} {h : Int} {E : List Ent} {F : Nat → Prop} {w W w20 w22 : World} {A1 A22 : Option Addr} {xv : Value} (K0 : BkAt w p lv wv h E F) (hg : ¬ F g) (hgw : g < w.heap.size) (h0 : 0 < ys.length) (hy : ys.length ≤ 4096)
    (HU2 : Upd (fun b => b = p ∨ lv.ownBlock = some b) w W) (HL2 : LSl W 22 (.slice A1 (E.length + 1) k1) (E.map (·.v) ++ [.slice (some ⟨g, 0, none⟩) ys.length cap]))
    (HA2 : ∀ b, (Value.slice A1 (E.length + 1) k1).ownBlock = some b → (lv.ownBlock = some b ∨ w.heap.size < b) ∧ b ≠ p) (HS2 : SRow W g ys cap cur)
    (HG20 : W.drew.grownBy w20 (Value.slice none 0 0).ownBlock) (HO20 : w20.ownsRow 0 33 3 (.slice (some ⟨g20, 0, none⟩) ys.length cap20) ys.length (sflat ys)) (HA20 : (Value.slice none 0 0).ownBlock = some g20 ∨ g20 = W.heap.size) (hlt20 : g20 < w20.heap.size)
    (HR22 : Row w22 p 62 #[.slice A1 (E.length + 1) k1, wv, .int .i64 h, .bool false]) (HL22 : LSl w22 22 (.slice A22 (E.length + 1) k22) (E.map (·.u) ++ [.slice (some ⟨g20, 0, none⟩) ys.length cap20]))
    (HG22 : (w20.alloc (.cells #[xv] 22)).grownBy w22 wv.ownBlock)
    (HA22 : ((Value.slice A22 (E.length + 1) k22).ownBlock = wv.ownBlock ∧ wv.ownBlock ≠ none) ∨ (Value.slice A22 (E.length + 1) k22).ownBlock = some (w20.alloc (.cells #[xv] 22)).heap.size) :
    ∃ F', BkAt (w22.setCell ⟨p, 1, none⟩ (.slice A22 (E.length + 1) k22)) p (.slice A1 (E.length + 1) k1) (.slice A22 (E.length + 1) k22) h (E ++ [⟨.slice (some ⟨g, 0, none⟩) ys.length cap, .slice (some ⟨g20, 0, none⟩) ys.length cap20, ys⟩]) F' ∧
      Upd F w (w22.setCell ⟨p, 1, none⟩ (.slice A22 (E.length + 1) k22)) ∧ ∀ b, F' b → F b ∨ (Value.slice (some ⟨g, 0, none⟩) ys.length cap).ownBlock = some b ∨ w.heap.size ≤ b := by
  have hp := K0.box.lt
  have hWs := HU2.size
  have h20 : g20 = W.heap.size := by
    rcases HA20 with e | e
    · simp [Value.ownBlock] at e
    · exact e
  have uW20 : Upd (fun _ => False) W w20 := (Upd.drew W).trans (Upd.of_grownBy HG20 (S := fun _ => False) (fun b e => by simp [Value.ownBlock] at e)) (fun _ e => e.elim)
  have u2022 : Upd (fun b => wv.ownBlock = some b) w20 w22 := (Upd.alloc w20 _).trans (Upd.of_grownBy HG22 (fun b e => e)) (fun _ e => .inl e)
  have uW22 : Upd (fun b => wv.ownBlock = some b) W w22 := (uW20.mono (T := fun b => wv.ownBlock = some b) (fun _ e _ => e.elim)).trans u2022 (fun _ e => .inl e)
  have uset : Upd (· = p) w22 (w22.setCell ⟨p, 1, none⟩ (.slice A22 (E.length + 1) k22)) := Upd.setCell w22 ⟨p, 1, none⟩ _ rfl
  have uall : Upd (fun b => b = p ∨ lv.ownBlock = some b ∨ wv.ownBlock = some b) w (w22.setCell ⟨p, 1, none⟩ (.slice A22 (E.length + 1) k22)) :=
    ((HU2.mono (T := fun b => b = p ∨ lv.ownBlock = some b ∨ wv.ownBlock = some b) (fun b e _ => by rcases e with e | e; exact .inl e; exact .inr (.inl e))).trans uW22 (fun b e => .inl (.inr (.inr e)))).trans uset (fun b e => .inl (.inl e))
  have hwvlt : ∀ b, wv.ownBlock = some b → b < w.heap.size := fun b hb => K0.lt b (K0.fw b hb).1
  have hlvlt : ∀ b, lv.ownBlock = some b → b < w.heap.size := fun b hb => K0.lt b (K0.fl b hb).1
  have hA1w : ∀ b, (Value.slice A1 (E.length + 1) k1).ownBlock = some b → wv.ownBlock ≠ some b := fun b hb e => by
    rcases (HA2 b hb).1 with q | q
    · exact (K0.fl b q).2.2 e
    · have := hwvlt b e; omega
  have hA22 : ∀ b, (Value.slice A22 (E.length + 1) k22).ownBlock = some b → wv.ownBlock = some b ∨ w20.heap.size < b := fun b hb => by
    rcases HA22 with ⟨e, _⟩ | e
    · rw [e] at hb; exact .inl hb
    · rw [e] at hb
      have : w20.heap.size + 1 = b := by simpa using hb
      exact .inr (by omega)
  have hs20 := uW20.size
  have hA22p : ∀ b, (Value.slice A22 (E.length + 1) k22).ownBlock = some b → b ≠ p := fun b hb e => by
    rcases hA22 b hb with q | q
    · exact (K0.fw b q).2 e
    · omega
  obtain ⟨cu20, hr20⟩ := SRow_of_owns HO20 rfl h0
  have hls : LSl (w22.setCell ⟨p, 1, none⟩ (.slice A22 (E.length + 1) k22)) 22 (.slice A1 (E.length + 1) k1) (E.map (·.v) ++ [.slice (some ⟨g, 0, none⟩) ys.length cap]) :=
    (HL2.upd uW22 (fun b hb e => hA1w b hb e)).upd uset (fun b hb e => (HA2 b hb).2 e)
  have hws : LSl (w22.setCell ⟨p, 1, none⟩ (.slice A22 (E.length + 1) k22)) 22 (.slice A22 (E.length + 1) k22) (E.map (·.u) ++ [.slice (some ⟨g20, 0, none⟩) ys.length cap20]) := HL22.upd uset (fun b hb e => hA22p b hb e)
  have hv : SVal (w22.setCell ⟨p, 1, none⟩ (.slice A22 (E.length + 1) k22)) 0 (.slice (some ⟨g, 0, none⟩) ys.length cap) ys :=
    .inr ⟨g, cap, cur, rfl, Nat.zero_le _, ⟨uset.row (uW22.row HS2.1 (fun e => hg (K0.fw g e).1)) (fun e => hg (e ▸ K0.fp)), HS2.2⟩, h0⟩
  have hcu : SVal (w22.setCell ⟨p, 1, none⟩ (.slice A22 (E.length + 1) k22)) 0 (.slice (some ⟨g20, 0, none⟩) ys.length cap20) ys :=
    .inr ⟨g20, cap20, cu20, rfl, Nat.zero_le _, ⟨uset.row (u2022.row hr20.1 (fun e => by have := hwvlt _ e; omega)) (by omega), hr20.2⟩, h0⟩
  have hA1lt := HL2.lt
  have key := K0.keep uall (by have := HR22.setCell 1 (.slice A22 (E.length + 1) k22); simpa using this) hls hws hv (fun b hb => by
      obtain rfl : g = b := by simpa [Value.ownBlock] using hb
      exact ⟨hgw, hg⟩) hcu (fun b hb => by
      obtain rfl : g20 = b := by simpa [Value.ownBlock] using hb
      refine ⟨by omega, fun e => ?_, fun e => ?_⟩
      · have := hA1lt _ e; omega
      · rcases hA22 _ e with q | q
        · have := hwvlt _ q; omega
        · omega) (fun b hb => by rcases (HA2 b hb).1 with q | q; exact .inl q; exact .inr (by omega)) (fun b hb => by rcases hA22 b hb with q | q; exact .inl q; exact .inr (by omega)) (fun b hb e => by
      rcases hA22 b e with q | q
      · exact hA1w b hb q
      · have := hA1lt b hb; omega) hy
  refine ⟨_, key, uall.mono (fun b e _ => ?_), fun b hb => ?_⟩
  · rcases e with e | e | e
    · rw [e]; exact K0.fp
    · exact (K0.fl b e).1
    · exact (K0.fw b e).1
  · rcases hb with hb | hb | hb
    · exact .inl hb
    · exact .inr (.inl hb)
    · exact .inr (.inr hb.1)

set_option maxHeartbeats 3200000 in
set_option maxRecDepth 100000 in
theorem keep_some (p g cap : Nat) (cur : Array Value) (ys : List Slot) (lv wv : Value) (h : Int) (E : List Ent) (F : Nat → Prop) (w : World) (k : BkAt w p lv wv h E F) (hE : E.length ≤ 100)
    (hs : SRow w g ys cap cur) (h0 : 0 < ys.length) (hy : ys.length ≤ 4096) (hg : ¬ F g) :
    Calls Try.prog 32 #[.pointer (some ⟨p, 0, none⟩), .slice (some ⟨g, 0, none⟩) ys.length cap] w (KeepPost p (.slice (some ⟨g, 0, none⟩) ys.length cap) (E.length + 1) F w) := by
  have K0 := hide k
  have HS := hide hs
  have hgl := hs.1.lt
  have hpl := k.box.lt
  have c0 := k.box.cell (o := 0) rfl
  obtain ⟨i2, hi, hz0, hz1, hz2⟩ := info_parts info22
  have Hi := hide hi; have Hz0 := hide hz0; have Hz1 := hide hz1; have Hz2 := hide hz2
  clear hi hz0 hz1 hz2 k hs
  go_enter Try.func32, Try.ntmps32
  go_wp2_with (at_builtin; refine wpList_append_one _ rfl (.tmp 8) (.tmp 10) 60 rfl 22 i2 (.slice none 0 0) und60 Hi.out Hz0.out Hz1.out (by rw [Hz2.out]; omega) rfl lv (E.map (·.v)) rfl (K0.out.ls.upd (Upd.alloc w _ (S := fun _ => False)) (fun _ _ s => s)) (.slice (some ⟨g, 0, none⟩) ys.length cap) rfl w.heap.size 1 rfl (by exact (Row.alloc_new w #[.slice (some ⟨g, 0, none⟩) ys.length cap] 22).cell (o := 0) rfl) (by simp; omega) ?_)
  intro v1 w1 hl1 hgrow1 hat1
  obtain ⟨A1, k1, rfl⟩ := hl1.len
  simp only [List.length_append, List.length_map, List.length_singleton] at hl1 hat1 ⊢
  have hu1 : Upd (fun b => lv.ownBlock = some b) w w1 := (Upd.alloc w _).trans (Upd.of_grownBy hgrow1 (fun b e => e)) (fun b e => .inl e)
  have hr1 : Row w1 p 62 #[lv, wv, .int .i64 h, .bool false] := hu1.row K0.out.box (fun e => (K0.out.fl p e).2.1 rfl)
  have f1 := hr1.frozen 0
  have d1 := hr1.cell (o := 0) rfl
  have HU1 := hide hu1
  have HR1 := hide hr1
  have HL1 := hide hl1
  have HA1 := hide hat1
  clear hl1 hgrow1 hat1 hu1 hr1 c0
  go_wp2_with fail
  have hu2 : Upd (fun b => b = p ∨ lv.ownBlock = some b) w (w1.setCell ⟨p, 0, none⟩ (.slice A1 (E.length + 1) k1)) := (HU1.out.mono (T := fun b => b = p ∨ lv.ownBlock = some b) (fun b e _ => .inr e)).trans (Upd.setCell w1 ⟨p, 0, none⟩ _ (S := (· = p)) rfl) (fun b e => .inl (.inl e))
  have HU2 := hide hu2
  have HR2 : Hid (Row (w1.setCell ⟨p, 0, none⟩ (.slice A1 (E.length + 1) k1)) p 62 #[.slice A1 (E.length + 1) k1, wv, .int .i64 h, .bool false]) := hide (by
    have := HR1.out.setCell 0 (.slice A1 (E.length + 1) k1)
    simpa using this)
  have HA2 : Hid (∀ b, (Value.slice A1 (E.length + 1) k1).ownBlock = some b → (lv.ownBlock = some b ∨ w.heap.size < b) ∧ b ≠ p) := hide (fun b hb => by
    rcases HA1.out with ⟨e, _⟩ | e
    · rw [e] at hb; exact ⟨.inl hb, (K0.out.fl b hb).2.1⟩
    · rw [e] at hb
      have : w.heap.size + 1 = b := by simpa using hb
      exact ⟨.inr (by omega), by omega⟩)
  have HL2 : Hid (LSl (w1.setCell ⟨p, 0, none⟩ (.slice A1 (E.length + 1) k1)) 22 (.slice A1 (E.length + 1) k1) (E.map (·.v) ++ [.slice (some ⟨g, 0, none⟩) ys.length cap])) := hide (HL1.out.upd (Upd.setCell w1 ⟨p, 0, none⟩ _ (S := (· = p)) rfl) (fun b hb e => (HA2.out b hb).2 e))
  have HW2 : Hid (LSl (w1.setCell ⟨p, 0, none⟩ (.slice A1 (E.length + 1) k1)) 22 wv (E.map (·.u))) := hide (K0.out.ws.upd hu2 (fun b hb e => by
    rcases e with e | e
    · exact (K0.out.fw b hb).2 e
    · exact (K0.out.fl b e).2.2 hb))
  have HS2 : Hid (SRow (w1.setCell ⟨p, 0, none⟩ (.slice A1 (E.length + 1) k1)) g ys cap cur) := hide ⟨hu2.row HS.out.1 (fun e => by
    rcases e with e | e
    · exact hg (e ▸ K0.out.fp)
    · exact hg (K0.out.fl g e).1), HS.out.2⟩
  clear hu2 f1 d1
  generalize w1.setCell ⟨p, 0, none⟩ (.slice A1 (E.length + 1) k1) = W at HU2 HR2 HL2 HW2 HS2 ⊢
  have hpW : p < W.heap.size := HR2.out.lt
  have hgW : g < W.heap.size := HS2.out.1.lt
  obtain ⟨i3, hi, hz0, hz1, hz2⟩ := info_parts info33
  have Hi3 := hide hi; have Hz30 := hide hz0; have Hz31 := hide hz1; have Hz32 := hide hz2
  clear hi hz0 hz1 hz2
  have e1 : W.cell? ⟨p, 1, none⟩ = some wv := HR2.out.cell (o := 1) rfl
  have e1d : W.drew.cell? ⟨p, 1, none⟩ = some wv := e1
  have hnews : ∀ j u, (sflat ys)[j]? = some u → W.drew.cell? ((⟨g, 0, none⟩ : Addr).add j) = some u := HS2.out.owns.cells (g := g) rfl
  have Hnews := hide hnews
  have Hone : Hid (∀ u ∈ sflat ys, u.oneCell' = true) := hide (fun u hu => by
    obtain ⟨x, _, hx⟩ := List.mem_flatMap.1 hu
    simp only [Slot.cells, List.mem_cons, List.not_mem_nil, or_false] at hx
    obtain rfl | rfl | rfl := hx <;> rfl)
  clear hnews
  go_region_law (first
    | (refine step_append_lies _ (by rfl) (.const (.slice none 0 0)) (.tmp 19) 22 (by rfl) 0 33 i3 (.agg #[.string ⟨#[]⟩, .int .i64 0, .int .i64 0]) 3 32 Try.underlying22 Hi3.out Hz30.out Hz31.out Hz32.out rfl (by decide) (.slice none 0 0) 0 [] (by rfl) (World.ownsRow_nil _ _ _ _) ⟨g, 0, none⟩ ys.length cap (sflat ys) (by rfl) (sflat_length ys) Hnews.out Hone.out h0 (by unfold maxLen; omega) (by omega) (Nat.zero_le _) W.heap.size (by simp) ?_; intro g20 cap20 w20 hown20 hgrow20 hat20 hlt20
       simp only [Nat.zero_add, List.nil_append] at hown20
       have HG20lt := hide hlt20
       have r20 : Row w20 p 62 #[.slice A1 (E.length + 1) k1, wv, .int .i64 h, .bool false] := (hgrow20.block p (by simp; omega) (by simp [Value.ownBlock])).trans HR2.out
       have e20 := r20.cell (o := 1) rfl
       have e21 := (r20.alloc (.cells #[.slice (some ⟨g20, 0, none⟩) ys.length cap20] 22)).cell (o := 1) rfl
       have HR20 := hide r20
       have HG20 := hide hgrow20; have HO20 := hide hown20; have HA20 := hide hat20
       have HW20 : Hid (LSl w20 22 wv (E.map (·.u))) := hide (HW2.out.upd (w := W) ((Upd.drew W (S := fun _ => False)).trans (Upd.of_grownBy hgrow20 (S := fun _ => False) (fun b e => by simp [Value.ownBlock] at e)) (fun _ e => e.elim)) (fun _ _ e => e))
       clear hgrow20 hown20 hat20 r20 hlt20)
    | (refine step_append_one _ (by rfl) (.tmp 18) (.tmp 21) 60 (by rfl) 22 i2 (.slice none 0 0) und60 Hi.out Hz0.out Hz1.out (by rw [Hz2.out]; omega) rfl wv (E.map (·.u)) (by rfl) (HW20.out.upd (Upd.alloc w20 _ (S := fun _ => False)) (fun _ _ s => s)) (.slice (some ⟨g20, 0, none⟩) ys.length cap20) rfl w20.heap.size 1 (by rfl) (by exact (Row.alloc_new w20 #[.slice (some ⟨g20, 0, none⟩) ys.length cap20] 22).cell (o := 0) rfl) (by simp; omega) ?_; intro v22 w22 hl22 hgrow22 hat22
       obtain ⟨A22, k22, rfl⟩ := hl22.len
       simp only [List.length_append, List.length_map, List.length_singleton] at hl22 hat22 ⊢
       have r22 : Row w22 p 62 #[.slice A1 (E.length + 1) k1, wv, .int .i64 h, .bool false] := (hgrow22.block p (by have := HR20.out.lt; simp; omega) (fun e => (K0.out.fw p e.symm).2 rfl)).trans (HR20.out.alloc _)
       have e22 := r22.cell (o := 1) rfl
       have f22 := r22.frozen 1
       have HR22 := hide r22
       have HL22 := hide hl22; have HG22 := hide hgrow22; have HA22 := hide hat22
       clear hl22 hgrow22 hat22 r22))
  all_goals (
    obtain ⟨F', hK3, hU3, hF3⟩ := keep_mem K0.out hg hgl h0 hy HU2.out HL2.out HA2.out HS2.out HG20.out HO20.out HA20.out HG20lt.out HR22.out HL22.out HG22.out HA22.out
    have K3 := hide hK3; have HU3 := hide hU3; have HF3 := hide hF3
    have hE3 : (E ++ [(⟨.slice (some ⟨g, 0, none⟩) ys.length cap, .slice (some ⟨g20, 0, none⟩) ys.length cap20, ys⟩ : Ent)]).length ≤ E.length + 1 := by simp
    have hE4 : 1 ≤ (E ++ [(⟨.slice (some ⟨g, 0, none⟩) ys.length cap, .slice (some ⟨g20, 0, none⟩) ys.length cap20, ys⟩ : Ent)]).length := by simp
    clear hK3 hU3 hF3 e1 e1d e20 e21 e22 f22
    generalize E ++ [(⟨.slice (some ⟨g, 0, none⟩) ys.length cap, .slice (some ⟨g20, 0, none⟩) ys.length cap20, ys⟩ : Ent)] = E3 at *
    generalize w22.setCell ⟨p, 1, none⟩ (.slice A22 (E.length + 1) k22) = W3 at K3 HU3 ⊢
    have b2 := K3.out.box.cell (o := 2) rfl
    have f2 := K3.out.box.frozen 2
    go_wp2_with fail)
  all_goals (
    go_loopw [] (fun wr => ∃ (lv wv : Value) (h : Int) (E2 : List Ent), 1 ≤ E2.length ∧ E2.length ≤ E.length + 1 ∧ Hid (BkAt wr p lv wv h E2 F') ∧ Hid (Upd F w wr)) (fun wr => bookLen wr p)
    case atStart => exact ⟨_, _, _, E3, hE4, hE3, hide (K3.out.held (Upd.setCell _ _ _ rfl) (by have := K3.out.box.setCell 2 (.int .i64 (wrap64 (wrap64 (h + (cap : Int)) + 1))); simpa using this)), hide (HU3.out.trans (Upd.setCell _ _ _ (S := (· = p)) rfl) (fun b e => .inl (e ▸ K0.out.fp)))⟩
    case round =>
      clear b2 f2
      obtain ⟨lv2, wv2, h2, E2, hl1, hl2, KB, HUr⟩ := hrel
      obtain ⟨gl, kl, cl, rfl⟩ := KB.out.ls.form (by simp; omega)
      obtain ⟨gw, kw, cw, rfl⟩ := KB.out.ws.form (by simp; omega)
      simp only [List.length_map] at KB
      have d0 := KB.out.box.cell (o := 0) rfl
      have d1 := KB.out.box.cell (o := 1) rfl
      have d2 := KB.out.box.cell (o := 2) rfl
      have d3 := KB.out.box.cell (o := 3) rfl
      by_cases hn1 : E2.length ≤ 1
      · go_wp2_with fail
        go_end0
        exact ⟨rfl, _, _, _, _, _, hl2, KB.out, HUr.out, HF3.out⟩
      by_cases hh : h2 ≤ 1000000
      · go_wp2_with fail
        go_end0
        exact ⟨rfl, _, _, _, _, _, hl2, KB.out, HUr.out, HF3.out⟩
      obtain ⟨e, E4, rfl⟩ : ∃ e E4, E2 = e :: E4 := by
        cases E2 with
        | nil => simp at hl1
        | cons a b => exact ⟨a, b, rfl⟩
      obtain ⟨a1, a2, a3, a4⟩ := KB.out.ent e List.mem_cons_self
      obtain ⟨Av, cv, hev, hav⟩ := sval_at a1
      obtain ⟨Au, cu, heu, hau⟩ := sval_at a2
      have HAv := hide hav
      have HAu := hide hau
      have x0 := KB.out.ls.cell 0 (by simp)
      have x1 := KB.out.ws.cell 0 (by simp)
      simp only [List.map_cons, List.getElem_cons_zero, Nat.add_zero, hev, heu] at x0 x1
      rw [List.length_cons] at hl1 hl2 hn1 KB d0 d1
      have hyy : e.ys.length ≤ 4398046511104 := by have := KB.out.len e List.mem_cons_self; omega
      have lnep : gl ≠ p ∧ gw ≠ p := ⟨(KB.out.fl gl rfl).2.1, (KB.out.fw gw rfl).2⟩
      have hcl : E4.length + 1 ≤ cl := by have := KB.out.ls.cap; simpa using this
      have hcw : E4.length + 1 ≤ cw := by have := KB.out.ws.cap; simpa using this
      have s0 : wr.drew.cell? ⟨p, 0, none⟩ = some (.slice (some ⟨gl, kl, none⟩) (E4.length + 1) cl) := d0
      have s1 : wr.drew.cell? ⟨p, 1, none⟩ = some (.slice (some ⟨gw, kw, none⟩) (E4.length + 1) cw) := d1
      have s2 : wr.drew.cell? ⟨gl, kl, none⟩ = some (.slice Av e.ys.length cv) := x0
      have s3 : wr.drew.cell? ⟨gw, kw, none⟩ = some (.slice Au e.ys.length cu) := x1
      have s4 : wr.drew.cell? ⟨p, 3, none⟩ = some (.bool false) := d3
      have lp := KB.out.box.lt
      have lgl := World.block_lt_of_cell? wr _ x0
      have lgw := World.block_lt_of_cell? wr _ x1
      have Hev := hide hev; have Heu := hide heu
      clear hev heu hav hau a1 a2 a3 a4
      go_wp2_with fail
      go_region_held3 (fun W => W.cell? ⟨p, 0, none⟩ = some (.slice (some ⟨gl, kl, none⟩) (E4.length + 1) cl) ∧ W.cell? ⟨p, 1, none⟩ = some (.slice (some ⟨gw, kw, none⟩) (E4.length + 1) cw) ∧ W.cell? ⟨gl, kl, none⟩ = some (.slice Av e.ys.length cv) ∧ W.cell? ⟨gw, kw, none⟩ = some (.slice Au e.ys.length cu) ∧ W.cell? ⟨p, 3, none⟩ = some (.bool false))
        (first | exact ⟨s0, s1, s2, s3, s4⟩ | exact ⟨t0, t1, t2, t3, t4⟩ | exact ⟨u0, u1, u2, u3, u4⟩)
        (first | (go_at_call 31; refine (Slsame Av Au cv cu e.ys wr.drew hyy HAv.out HAu.out).mono ?_; rintro e7 w7 ⟨rfl, hb7⟩
                  have t0 : w7.cell? ⟨p, 0, none⟩ = some (.slice (some ⟨gl, kl, none⟩) (E4.length + 1) cl) := (hb7.cell (p := ⟨p, 0, none⟩) lp).trans s0
                  have t1 : w7.cell? ⟨p, 1, none⟩ = some (.slice (some ⟨gw, kw, none⟩) (E4.length + 1) cw) := (hb7.cell (p := ⟨p, 1, none⟩) lp).trans s1
                  have t2 : w7.cell? ⟨gl, kl, none⟩ = some (.slice Av e.ys.length cv) := (hb7.cell (p := ⟨gl, kl, none⟩) lgl).trans s2
                  have t3 : w7.cell? ⟨gw, kw, none⟩ = some (.slice Au e.ys.length cu) := (hb7.cell (p := ⟨gw, kw, none⟩) lgw).trans s3
                  have t4 : w7.cell? ⟨p, 3, none⟩ = some (.bool false) := (hb7.cell (p := ⟨p, 3, none⟩) lp).trans s4
                  have hu7 : Upd (fun _ => False) wr w7 := (Upd.drew wr).trans (Upd.of_below hb7 (S := fun _ => False) (fun b q1 q2 => by omega)) (fun _ q => q.elim)
                  have K7 := hide (KB.out.upd hu7 (fun _ q => q.elim))
                  have HU7 := hide (HUr.out.trans hu7 (fun _ q => q.elim))
                  have t5 := K7.out.box.frozen 3
                  have r8 : Row (w7.setCell ⟨p, 3, none⟩ (.bool false)) p 62 #[.slice (some ⟨gl, kl, none⟩) (E4.length + 1) cl, .slice (some ⟨gw, kw, none⟩) (E4.length + 1) cw, .int .i64 h2, .bool false] := by
                    have := K7.out.box.setCell 3 (.bool false)
                    simpa using this
                  have K8 := hide (K7.out.held (Upd.setCell w7 ⟨p, 3, none⟩ (.bool false) (S := (· = p)) rfl) r8)
                  have u0 := r8.cell (o := 0) rfl
                  have u1 := r8.cell (o := 1) rfl
                  have u4 := r8.cell (o := 3) rfl
                  have u2 : (w7.setCell ⟨p, 3, none⟩ (.bool false)).cell? ⟨gl, kl, none⟩ = some (.slice Av e.ys.length cv) := (World.cell?_setCell_far w7 ⟨p, 3, none⟩ ⟨gl, kl, none⟩ _ (fun q => lnep.1 q.symm)).trans t2
                  have u3 : (w7.setCell ⟨p, 3, none⟩ (.bool false)).cell? ⟨gw, kw, none⟩ = some (.slice Au e.ys.length cu) := (World.cell?_setCell_far w7 ⟨p, 3, none⟩ ⟨gw, kw, none⟩ _ (fun q => lnep.2 q.symm)).trans t3
                  clear hu7 hb7 r8))
      go_wp2_with fail
      have HU8 := hide (HU7.out.trans (Upd.setCell w7 ⟨p, 3, none⟩ (.bool false) (S := (· = p)) rfl) (fun b q => .inl (q ▸ K0.out.fp)))
      clear t0 t1 t2 t3 t4 t5 s0 s1 s2 s3 s4 d0 d1 d2 d3 x0 x1
      generalize w7.setCell ⟨p, 3, none⟩ (.bool false) = wx at *
      have y0 : wx.drew.cell? ⟨p, 0, none⟩ = some (.slice (some ⟨gl, kl, none⟩) (E4.length + 1) cl) := u0
      have y2 : wx.drew.cell? ⟨gl, kl, none⟩ = some (.slice Av e.ys.length cv) := u2
      have y3 : wx.drew.cell? ⟨p, 2, none⟩ = some (.int .i64 h2) := K8.out.box.cell (o := 2) rfl
      have y4 : wx.drew.frozen? ⟨p, 2, none⟩ = false := K8.out.box.frozen 2
      have z0 : ∀ Y : Int, (wx.drew.setCell ⟨p, 2, none⟩ (.int .i64 Y)).cell? ⟨p, 0, none⟩ = some (.slice (some ⟨gl, kl, none⟩) (E4.length + 1) cl) := fun Y => ((K8.out.box.drew).setCell 2 (.int .i64 Y)).cell (o := 0) (by simp)
      have z2 : ∀ Y : Int, (wx.drew.setCell ⟨p, 2, none⟩ (.int .i64 Y)).cell? ⟨gl, kl, none⟩ = some (.slice Av e.ys.length cv) := fun Y => (World.cell?_setCell_far wx.drew ⟨p, 2, none⟩ ⟨gl, kl, none⟩ _ (fun q => lnep.1 q.symm)).trans y2
      have K9 : Hid (∀ Y : Int, BkAt (wx.drew.setCell ⟨p, 2, none⟩ (.int .i64 Y)) p (.slice (some ⟨gl, kl, none⟩) (E4.length + 1) cl) (.slice (some ⟨gw, kw, none⟩) (E4.length + 1) cw) Y (e :: E4) F') := hide (fun Y => K8.out.held ((Upd.drew wx).trans (Upd.setCell wx.drew ⟨p, 2, none⟩ (.int .i64 Y) (S := (· = p)) rfl) (fun b q => .inl q)) (by
        have := (K8.out.box.drew).setCell 2 (.int .i64 Y)
        simpa using this))
      have HU9 : Hid (∀ Y : Int, Upd F w (wx.drew.setCell ⟨p, 2, none⟩ (.int .i64 Y))) := hide (fun Y => HU8.out.trans ((Upd.drew wx).trans (Upd.setCell wx.drew ⟨p, 2, none⟩ (.int .i64 Y) (S := (· = p)) rfl) (fun b q => .inl q)) (fun b q => .inl (q ▸ K0.out.fp)))
      clear u0 u1 u2 u3 u4
      refine wp_region_still_tail 16 (by kernel_rfl) (by kernel_rfl) ?_
      simp only [List.take_succ_cons, List.take_zero, List.drop_succ_cons, List.drop_zero]
      change wpStill _ _ (World.drew wx) _ _ _
      repeat still_step
      refine wpStill_nil ?_
      change wpList _ _ _ _ _ (World.drew wx)
      have hdrop : ∀ Y : Int, BkAt (((wx.setCell ⟨p, 2, none⟩ (.int .i64 Y)).setCell ⟨p, 0, none⟩ (.slice (some ⟨gl, kl + 1, none⟩) E4.length (cl - 1))).setCell ⟨p, 1, none⟩ (.slice (some ⟨gw, kw + 1, none⟩) E4.length (cw - 1))).drew p (.slice (some ⟨gl, kl + 1, none⟩) E4.length (cl - 1)) (.slice (some ⟨gw, kw + 1, none⟩) E4.length (cw - 1)) Y E4 F' ∧
          Upd F w (((wx.setCell ⟨p, 2, none⟩ (.int .i64 Y)).setCell ⟨p, 0, none⟩ (.slice (some ⟨gl, kl + 1, none⟩) E4.length (cl - 1))).setCell ⟨p, 1, none⟩ (.slice (some ⟨gw, kw + 1, none⟩) E4.length (cw - 1))).drew := fun Y => by
        have ub : Upd (· = p) wx (((wx.setCell ⟨p, 2, none⟩ (.int .i64 Y)).setCell ⟨p, 0, none⟩ (.slice (some ⟨gl, kl + 1, none⟩) E4.length (cl - 1))).setCell ⟨p, 1, none⟩ (.slice (some ⟨gw, kw + 1, none⟩) E4.length (cw - 1))).drew :=
          (((Upd.setCell wx ⟨p, 2, none⟩ (.int .i64 Y) (S := (· = p)) rfl).trans (Upd.setCell _ ⟨p, 0, none⟩ _ (S := (· = p)) rfl) (fun _ q => .inl q)).trans (Upd.setCell _ ⟨p, 1, none⟩ _ (S := (· = p)) rfl) (fun _ q => .inl q)).trans (Upd.drew _ (S := (· = p))) (fun _ q => .inl q)
        refine ⟨K8.out.drop rfl ub ?_, HU8.out.trans ub (fun b q => .inl (q ▸ K0.out.fp))⟩
        have := (((K8.out.box.setCell 2 (.int .i64 Y)).setCell 0 (.slice (some ⟨gl, kl + 1, none⟩) E4.length (cl - 1))).setCell 1 (.slice (some ⟨gw, kw + 1, none⟩) E4.length (cw - 1))).drew
        simpa using this
      have Hdrop := hide hdrop
      have hcl2 : 2 ≤ cl := by omega
      have hcw2 : 2 ≤ cw := by omega
      clear hdrop
      have q0 : wx.frozen? ⟨p, 0, none⟩ = false := K8.out.box.frozen 0
      have q1 : wx.frozen? ⟨p, 1, none⟩ = false := K8.out.box.frozen 1
      go_wp2_with fail
      go_roundw
      case rel => exact ⟨_, _, _, E4, by omega, by omega, hide (Hdrop.out _).1, hide (Hdrop.out _).2⟩
      case measure => rw [(Hdrop.out _).1.bookLen, KB.out.bookLen]; simp)
end LA
end Go.Proofs.Ytenfikfgliljmaa
