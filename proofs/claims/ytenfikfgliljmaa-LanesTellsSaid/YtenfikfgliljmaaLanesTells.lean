/- bulkheadlaw9.LanesTells returns true for any slots, tick and subject, and turns no memory that was there; no condition. -/
import Derived.Test.YtenfikfgliljmaaOSl
import Derived.Test.YtenfikfgliljmaaK4
import Derived.SizedLaws
import Derived.Carry
namespace Go.Proofs.Ytenfikfgliljmaa.lanesTells
open Go.ChangeShapes Go.WideShapes Go.ChangeAt Go.RowKit
open Go.ChangeMaps (open_string shut_string)
theorem laidOut : laidOutB Try.prog = true := by kernel_rfl
theorem bytes33 : Try.prog.bytesOf 33 = 32 := by kernel_rfl

set_option maxRecDepth 100000 in
theorem lifted (os : Os) (started : os.Started) (H : Type) (enc : TypeId × Value → H) :
    ReturnsInHanded {} Try.checked os 5 .any (Rows.lanesTellsSpec.pre6 enc Try.prog Try.f5 Rows.lanesTellsRow.domain false) (Rows.lanesTellsSpec.post enc Try.prog Try.f5 false true false false) := by
  refine returnsInHanded_of_change_sized (C := Try.checked) LA.own started (by kernel_rfl) Try.func5
    (ChangeSpec.witness6 (enc := enc) (C := Try.checked) false ⟨#[], #[.slice none 0 0, .int .i64 0, .string .empty], []⟩ 8 (by kernel_rfl) (by kernel_rfl) (by kernel_rfl) (by kernel_rfl)) ?_
  intro W base args ds gs before hval hW hcnd hsz _
  have hW' := hW
  obtain ⟨p, q, hA0, hV, rfl, hfz, hnd⟩ := hW
  have hA : DataW.TrodAll enc Try.prog W 0 (fun _ => true) true Try.f5.params.toList args.toList ds p := hA0
  rw [Try.params5] at hA hval hsz
  obtain ⟨v0, vs0, d0, ds0, p0, q0, hargs, rfl, rfl, h0, r0⟩ := trodAll_cons hA
  obtain ⟨v1, vs1, d1, ds1, p1, q1, rfl, rfl, rfl, h1, r1⟩ := trodAll_cons r0
  obtain ⟨v2, vs2, d2, ds2, p2, q2, rfl, rfl, rfl, h2, r2⟩ := trodAll_cons r1
  obtain ⟨rfl, rfl, rfl⟩ := trodAll_nil r2
  obtain rfl : args = #[v0, v1, v2] := by cases args; simp_all
  obtain ⟨rfl, rfl⟩ := trodVars_none hV
  obtain ⟨A, xs, cap0, rfl, hat, hok, hlen⟩ := LA.Slopen (hval 0 22 v0 rfl rfl) h0
  obtain ⟨o, rfl, rfl, rfl, wo⟩ := open_int Try.underlying3 (hval 1 3 v1 rfl rfl) h1
  obtain ⟨s, rfl, rfl, rfl, hmax⟩ := open_string Try.underlying9 (hval 2 9 v2 rfl rfl) h2
  have hn : xs.length ≤ 4398046511104 := by
    rcases hlen with rfl | ⟨el, sp, rfl, hl⟩
    · simp
    · have hs := sized_slice hsz (j := 0) rfl rfl Try.underlying22
      change (el.length + sp.length) * Try.prog.bytesOf 33 ≤ _ at hs
      rw [bytes33, hl] at hs
      simp only [reachBytes] at hs
      omega
  have hlt : ∀ x ∈ p0, x.block < W.heap.size := fun x hx => by simpa using hW'.lt x (by simp [hx])
  clear hA0 hval hA r0 r1 hsz
  simp only [List.append_nil] at hW'
  refine (LA.lanesTells_any A cap0 xs o s W hn hat (fun x hx => by have := hok x hx; exact ⟨this.1.1, this.1.2, this.2.1, this.2.2⟩)).mono fun e W' ⟨he, hg⟩ => ?_
  subst he
  exact ⟨_, rfl, LA.post_below (pv := []) hW' (fun _ _ _ => (trodAll_cons_mk (shut_bool Try.underlying4 _) trodAll_mk0))
    (trodAll_mk3 (Below.trod laidOut (by kernel_rfl) (of_decide_eq_true (by kernel_rfl)) h0 hg hlt) (shut_int Try.underlying3 wo) (shut_string Try.underlying9 hmax)) rfl hg⟩

theorem over : Rows.lanesTellsRow.holds Try.pinned (OpenSpec.ofChange Rows.lanesTellsSpec) :=
  OpenClaim.holds_of_wide 5 Try.f5 rfl rfl rfl rfl rfl rfl rfl ⟨rfl, rfl, rfl, rfl, rfl⟩ rfl rfl rfl rfl rfl (by kernel_rfl) Try.func5 (by kernel_rfl)
    (of_decide_eq_true (by kernel_rfl)) (by unfold Func.isWrapper; first | (rw [if_pos (by decide +kernel)]; kernel_rfl) | (rw [if_neg (by decide +kernel)]; exact ⟨rfl, rfl⟩))
    (fun os started H enc _ => lifted os started H enc)

theorem proved : Rows.LanesTellsSaid := over
#print axioms proved
end Go.Proofs.Ytenfikfgliljmaa.lanesTells
