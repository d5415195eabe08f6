/- bulkheadlaw9.LanesWindows returns true for any major frame, any lane and any beginning, and turns no memory that was there; no condition. -/
import Derived.Test.YtenfikfgliljmaaOLn
import Derived.Test.YtenfikfgliljmaaKW
import Derived.SizedLaws
import Derived.Carry
namespace Go.Proofs.Ytenfikfgliljmaa.lanesWindows
open Go.ChangeShapes Go.WideShapes Go.ChangeAt Go.RowKit
theorem laidOut : laidOutB Try.prog = true := by kernel_rfl

set_option maxRecDepth 100000 in
theorem lifted (os : Os) (started : os.Started) (H : Type) (enc : TypeId × Value → H) :
    ReturnsInHanded {} Try.checked os 10 .any (Rows.lanesWindowsSpec.pre6 enc Try.prog Try.f10 Rows.lanesWindowsRow.domain false) (Rows.lanesWindowsSpec.post enc Try.prog Try.f10 false true false false) := by
  refine returnsInHanded_of_change_sized (C := Try.checked) LA.own started (by kernel_rfl) Try.func10
    (ChangeSpec.witness6 (enc := enc) (C := Try.checked) false ⟨#[], #[.int .u64 0, .agg #[.int .i64 0, .int .u64 0, .bool false, .slice none 0 0], .int .i64 0], []⟩ 8 (by kernel_rfl) (by kernel_rfl) (by kernel_rfl) (by kernel_rfl)) ?_
  intro W base args ds gs before hval hW hcnd hsz _
  have hW' := hW
  obtain ⟨p, q, hA0, hV, rfl, hfz, hnd⟩ := hW
  have hA : DataW.TrodAll enc Try.prog W 0 (fun _ => true) true Try.f10.params.toList args.toList ds p := hA0
  rw [Try.params10] at hA hval hsz
  obtain ⟨v0, vs0, d0, ds0, p0, q0, hargs, rfl, rfl, h0, r0⟩ := trodAll_cons hA
  obtain ⟨v1, vs1, d1, ds1, p1, q1, rfl, rfl, rfl, h1, r1⟩ := trodAll_cons r0
  obtain ⟨v2, vs2, d2, ds2, p2, q2, rfl, rfl, rfl, h2, r2⟩ := trodAll_cons r1
  obtain ⟨rfl, rfl, rfl⟩ := trodAll_nil r2
  obtain rfl : args = #[v0, v1, v2] := by cases args; simp_all
  obtain ⟨rfl, rfl⟩ := trodVars_none hV
  obtain ⟨m, rfl, rfl, rfl, wm⟩ := open_int Try.underlying26 (hval 0 26 v0 rfl rfl) h0
  obtain ⟨lp, lc, nd, A, xs, cap0, rfl, hat, hok, hn⟩ := LA.Lnopen (hval 1 31 v1 rfl rfl) h1
  obtain ⟨fr, rfl, rfl, rfl, wf⟩ := open_int Try.underlying3 (hval 2 3 v2 rfl rfl) h2
  obtain ⟨hf0, hf1⟩ := LA.wf_i64 wf
  obtain ⟨hm0, hm1⟩ := LA.wf_u64 wm
  have hlt : ∀ x ∈ p1, x.block < W.heap.size := fun x hx => by simpa using hW'.lt x (by simp [hx])
  clear hA0 hval hA r0 r1 r2 hsz
  simp only [List.append_nil] at hW'
  refine (LA.lanesWindows_any m lp lc fr nd A cap0 xs W hm0 hm1 hf0 hf1 hn hat (fun x hx => LA.NdOk.ok (hok x hx))).mono fun e W' ⟨he, hg⟩ => ?_
  subst he
  exact ⟨_, rfl, LA.post_below (pv := []) hW' (fun _ _ _ => (trodAll_cons_mk (shut_bool Try.underlying4 _) trodAll_mk0))
    (trodAll_mk3 (shut_int Try.underlying26 wm) (Below.trod laidOut (by kernel_rfl) (of_decide_eq_true (by kernel_rfl)) h1 hg hlt) (shut_int Try.underlying3 wf)) rfl hg⟩

theorem over : Rows.lanesWindowsRow.holds Try.pinned (OpenSpec.ofChange Rows.lanesWindowsSpec) :=
  OpenClaim.holds_of_wide 10 Try.f10 rfl rfl rfl rfl rfl rfl rfl ⟨rfl, rfl, rfl, rfl, rfl⟩ rfl rfl rfl rfl rfl (by kernel_rfl) Try.func10 (by kernel_rfl)
    (of_decide_eq_true (by kernel_rfl)) (by unfold Func.isWrapper; first | (rw [if_pos (by decide +kernel)]; kernel_rfl) | (rw [if_neg (by decide +kernel)]; exact ⟨rfl, rfl⟩))
    (fun os started H enc _ => lifted os started H enc)

theorem proved : Rows.LanesWindowsSaid := over
#print axioms proved
end Go.Proofs.Ytenfikfgliljmaa.lanesWindows
