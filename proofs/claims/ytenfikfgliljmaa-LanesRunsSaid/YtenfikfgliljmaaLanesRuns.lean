/- bulkheadlaw9.LanesRuns returns true for any major frame and any lane, and turns no memory that was there; no condition. -/
import Derived.Test.YtenfikfgliljmaaOLn
import Derived.Test.YtenfikfgliljmaaKR
import Derived.SizedLaws
import Derived.Carry
namespace Go.Proofs.Ytenfikfgliljmaa.lanesRuns
open Go.ChangeShapes Go.WideShapes Go.ChangeAt Go.RowKit
theorem laidOut : laidOutB Try.prog = true := by kernel_rfl

set_option maxRecDepth 100000 in
theorem lifted (os : Os) (started : os.Started) (H : Type) (enc : TypeId × Value → H) :
    ReturnsInHanded {} Try.checked os 9 .any (Rows.lanesRunsSpec.pre6 enc Try.prog Try.f9 Rows.lanesRunsRow.domain false) (Rows.lanesRunsSpec.post enc Try.prog Try.f9 false true false false) := by
  refine returnsInHanded_of_change_sized (C := Try.checked) LA.own started (by kernel_rfl) Try.func9
    (ChangeSpec.witness6 (enc := enc) (C := Try.checked) false ⟨#[], #[.int .u64 0, .agg #[.int .i64 0, .int .u64 0, .bool false, .slice none 0 0]], []⟩ 8 (by kernel_rfl) (by kernel_rfl) (by kernel_rfl) (by kernel_rfl)) ?_
  intro W base args ds gs before hval hW hcnd hsz _
  have hW' := hW
  obtain ⟨p, q, hA0, hV, rfl, hfz, hnd⟩ := hW
  have hA : DataW.TrodAll enc Try.prog W 0 (fun _ => true) true Try.f9.params.toList args.toList ds p := hA0
  rw [Try.params9] at hA hval hsz
  obtain ⟨v0, vs0, d0, ds0, p0, q0, hargs, rfl, rfl, h0, r0⟩ := trodAll_cons hA
  obtain ⟨v1, vs1, d1, ds1, p1, q1, rfl, rfl, rfl, h1, r1⟩ := trodAll_cons r0
  obtain ⟨rfl, rfl, rfl⟩ := trodAll_nil r1
  obtain rfl : args = #[v0, v1] := by cases args; simp_all
  obtain ⟨rfl, rfl⟩ := trodVars_none hV
  obtain ⟨m, rfl, rfl, rfl, wm⟩ := open_int Try.underlying26 (hval 0 26 v0 rfl rfl) h0
  obtain ⟨lp, lc, nd, A, xs, cap0, rfl, hat, hok, hn⟩ := LA.Lnopen (hval 1 31 v1 rfl rfl) h1
  obtain ⟨hm0, hm1⟩ := LA.wf_u64 wm
  have hlt : ∀ x ∈ p1, x.block < W.heap.size := fun x hx => by simpa using hW'.lt x (by simp [hx])
  clear hA0 hval hA r0 r1 hsz
  simp only [List.append_nil] at hW'
  refine (LA.lanesRuns_any m lp lc nd A cap0 xs W hm0 hm1 hn hat (fun x hx => LA.NdOk.ok (hok x hx))).mono fun e W' ⟨he, hg⟩ => ?_
  subst he
  exact ⟨_, rfl, LA.post_below (pv := []) hW' (fun _ _ _ => (trodAll_cons_mk (shut_bool Try.underlying4 _) trodAll_mk0))
    (trodAll_mk2 (shut_int Try.underlying26 wm) (Below.trod laidOut (by kernel_rfl) (of_decide_eq_true (by kernel_rfl)) h1 hg hlt)) rfl hg⟩

theorem over : Rows.lanesRunsRow.holds Try.pinned (OpenSpec.ofChange Rows.lanesRunsSpec) :=
  OpenClaim.holds_of_wide 9 Try.f9 rfl rfl rfl rfl rfl rfl rfl ⟨rfl, rfl, rfl, rfl, rfl⟩ rfl rfl rfl rfl rfl (by kernel_rfl) Try.func9 (by kernel_rfl)
    (of_decide_eq_true (by kernel_rfl)) (by unfold Func.isWrapper; first | (rw [if_pos (by decide +kernel)]; kernel_rfl) | (rw [if_neg (by decide +kernel)]; exact ⟨rfl, rfl⟩))
    (fun os started H enc _ => lifted os started H enc)

theorem proved : Rows.LanesRunsSaid := over
#print axioms proved
end Go.Proofs.Ytenfikfgliljmaa.lanesRuns
