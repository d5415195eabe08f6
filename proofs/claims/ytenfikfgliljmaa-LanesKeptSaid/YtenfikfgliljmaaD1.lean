import Derived.Test.YtenfikfgliljmaaAB
import Derived.Test.YtenfikfgliljmaaMA
namespace Go.Proofs.Ytenfikfgliljmaa
open Go.RowKit
namespace LA
/-- What the closure leaves. -/
def TakePost (pe pm po pl pw : Nat) (M o : Int) (q : Know) (s t : Int) (w : World) (e : Ending) (w' : World) : Prop :=
  e = .returned (.bool (takeL M o q s t).2) ∧ AtVars w' pe pm po pl pw M o (takeL M o q s t).1 ∧ Upd (fun b => b = pe ∨ b = pl ∨ b = pw) w w'
theorem TakePost.mk {pe pm po pl pw : Nat} {M o : Int} {q : Know} {s t : Int} {w : World} {e : Ending} {w' : World} {r : Know × Bool} (hr : takeL M o q s t = r) (he : e = .returned (.bool r.2)) (ha : AtVars w' pe pm po pl pw M o r.1)
    (hu : Upd (fun b => b = pe ∨ b = pl ∨ b = pw) w w') : TakePost pe pm po pl pw M o q s t w e w' := by subst hr; exact ⟨he, ha, hu⟩

set_option maxHeartbeats 800000 in
set_option maxRecDepth 100000 in
theorem take_lt_ge_A (pe pm po pl pw : Nat) (M o e who l s t : Int) (w : World) (F : Five pe pm po pl pw) (HA : AtVars w pe pm po pl pw M o ⟨e, who, l⟩) (hM0 : 1 ≤ M) (hM1 : M ≤ 9223372036854775807) (he0 : 0 ≤ e) (he1 : e < M) (_ho0 : 0 ≤ o) (ho1 : o < M)
    (ht0 : 1 ≤ t) (ht1 : t ≤ 9223372036854775807) (_hl0 : 0 ≤ l) (_hl1 : l ≤ e) (hs0 : -9223372036854775808 ≤ s) (hs1 : s ≤ 9223372036854775807) (hmn : t ≤ M - e) (hmx : -1 ≤ s) (hc : e + t ≤ o) :
    Calls Try.prog 48 #[.int .i64 s, .int .i64 t, .pointer (some ⟨pe, 0, none⟩), .pointer (some ⟨pm, 0, none⟩), .pointer (some ⟨po, 0, none⟩), .pointer (some ⟨pl, 0, none⟩), .pointer (some ⟨pw, 0, none⟩)] w (TakePost pe pm po pl pw M o ⟨e, who, l⟩ s t w) := by
  have Hr := hide (show takeL M o ⟨e, who, l⟩ s t = (⟨e + t, who, l⟩, decide (e + t < M)) from by
    have q1 : e + min t (M - e) = e + t := by omega
    have q2 : max s (-1) = s := by omega
    simp only [takeL, q1, q2]
    rw [if_pos hc])
  have ce := HA.re.cell (o := 0) rfl
  have cm := HA.rm.cell (o := 0) rfl
  have co := HA.ro.cell (o := 0) rfl
  have fe := HA.re.frozen 0
  have G := hide F
  have HA1 := HA.setE F (e + t)
  have HU1 := hide (show Upd (fun b => b = pe ∨ b = pl ∨ b = pw) w (w.setCell ⟨pe, 0, none⟩ (.int .i64 (e + t))) from Upd.setCell _ _ _ (.inl rfl))
  have ce1 := HA1.re.cell (o := 0) rfl
  have cm1 := HA1.rm.cell (o := 0) rfl
  have co1 := HA1.ro.cell (o := 0) rfl
  have cl1 := HA1.rl.cell (o := 0) rfl
  have cw1 := HA1.rw.cell (o := 0) rfl
  have fl1 := HA1.rl.frozen 0
  have fw1 := HA1.rw.frozen 0
  have HB := hide HA1
  clear HA F HA1
  go_enter Try.func48, Try.ntmps48
  go_wp2_with fail
  go_ret
  exact TakePost.mk Hr.out rfl HB.out HU1.out

set_option maxHeartbeats 800000 in
set_option maxRecDepth 100000 in
theorem take_lt_ge_Ble (pe pm po pl pw : Nat) (M o e who l s t : Int) (w : World) (F : Five pe pm po pl pw) (HA : AtVars w pe pm po pl pw M o ⟨e, who, l⟩) (hM0 : 1 ≤ M) (hM1 : M ≤ 9223372036854775807) (he0 : 0 ≤ e) (he1 : e < M) (ho0 : 0 ≤ o) (ho1 : o < M)
    (_ht0 : 1 ≤ t) (_ht1 : t ≤ 9223372036854775807) (hl0 : 0 ≤ l) (hl1 : l ≤ e) (hs0 : -9223372036854775808 ≤ s) (hs1 : s ≤ 9223372036854775807) (hmn : t ≤ M - e) (hmx : -1 ≤ s) (hc : o < e + t) (hl : l = 0) (hf : e < o) :
    Calls Try.prog 48 #[.int .i64 s, .int .i64 t, .pointer (some ⟨pe, 0, none⟩), .pointer (some ⟨pm, 0, none⟩), .pointer (some ⟨po, 0, none⟩), .pointer (some ⟨pl, 0, none⟩), .pointer (some ⟨pw, 0, none⟩)] w (TakePost pe pm po pl pw M o ⟨e, who, l⟩ s t w) := by
  have Hr := hide (show takeL M o ⟨e, who, l⟩ s t = (⟨e + t, s, e + t - o⟩, decide (e + t < M)) from by
    have q1 : e + min t (M - e) = e + t := by omega
    have q2 : max s (-1) = s := by omega
    simp only [takeL, q1, q2]
    rw [if_neg (by omega), if_pos hl, show max e o = o by omega])
  have ce := HA.re.cell (o := 0) rfl
  have cm := HA.rm.cell (o := 0) rfl
  have co := HA.ro.cell (o := 0) rfl
  have fe := HA.re.frozen 0
  have G := hide F
  have HA1 := HA.setE F (e + t)
  have HU1 := hide (show Upd (fun b => b = pe ∨ b = pl ∨ b = pw) w (w.setCell ⟨pe, 0, none⟩ (.int .i64 (e + t))) from Upd.setCell _ _ _ (.inl rfl))
  have ce1 := HA1.re.cell (o := 0) rfl
  have cm1 := HA1.rm.cell (o := 0) rfl
  have co1 := HA1.ro.cell (o := 0) rfl
  have cl1 := HA1.rl.cell (o := 0) rfl
  have cw1 := HA1.rw.cell (o := 0) rfl
  have fl1 := HA1.rl.frozen 0
  have fw1 := HA1.rw.frozen 0
  have HB := hide HA1
  have ll : (l == 0) = true := beq_iff_eq.2 hl
  clear HA F HA1
  subst hl
  have HW2 := HB.out.setW G.out (s)
  have ce2 := HW2.re.cell (o := 0) rfl
  have cm2 := HW2.rm.cell (o := 0) rfl
  have co2 := HW2.ro.cell (o := 0) rfl
  have cl2 := HW2.rl.cell (o := 0) rfl
  have fl2 := HW2.rl.frozen 0
  have HL3 := HW2.setL G.out (e + t - o)
  have ce3 := HL3.re.cell (o := 0) rfl
  have cm3 := HL3.rm.cell (o := 0) rfl
  have HC := hide (HL3.drew)
  clear HW2 HL3
  go_enter Try.func48, Try.ntmps48
  go_wp2_with fail
  go_region
  all_goals go_wp2_with fail
  go_ret
  exact TakePost.mk Hr.out rfl HC.out (((HU1.out.trans (Upd.setCell _ ⟨pw, 0, none⟩ (.int .i64 (s)) (S := (· = pw)) rfl) (fun _ h => .inl (.inr (.inr h)))).trans (Upd.setCell _ ⟨pl, 0, none⟩ (.int .i64 (e + t - o)) (S := (· = pl)) rfl) (fun _ h => .inl (.inr (.inl h)))).trans (Upd.drew (S := fun _ => False) _) (fun _ h => h.elim))

set_option maxHeartbeats 800000 in
set_option maxRecDepth 100000 in
theorem take_lt_ge_Bgt (pe pm po pl pw : Nat) (M o e who l s t : Int) (w : World) (F : Five pe pm po pl pw) (HA : AtVars w pe pm po pl pw M o ⟨e, who, l⟩) (hM0 : 1 ≤ M) (hM1 : M ≤ 9223372036854775807) (he0 : 0 ≤ e) (he1 : e < M) (ho0 : 0 ≤ o) (_ho1 : o < M)
    (ht0 : 1 ≤ t) (ht1 : t ≤ 9223372036854775807) (hl0 : 0 ≤ l) (hl1 : l ≤ e) (hs0 : -9223372036854775808 ≤ s) (hs1 : s ≤ 9223372036854775807) (hmn : t ≤ M - e) (hmx : -1 ≤ s) (hc : o < e + t) (hl : l = 0) (hf : o ≤ e) :
    Calls Try.prog 48 #[.int .i64 s, .int .i64 t, .pointer (some ⟨pe, 0, none⟩), .pointer (some ⟨pm, 0, none⟩), .pointer (some ⟨po, 0, none⟩), .pointer (some ⟨pl, 0, none⟩), .pointer (some ⟨pw, 0, none⟩)] w (TakePost pe pm po pl pw M o ⟨e, who, l⟩ s t w) := by
  have Hr := hide (show takeL M o ⟨e, who, l⟩ s t = (⟨e + t, s, e + t - e⟩, decide (e + t < M)) from by
    have q1 : e + min t (M - e) = e + t := by omega
    have q2 : max s (-1) = s := by omega
    simp only [takeL, q1, q2]
    rw [if_neg (by omega), if_pos hl, show max e o = e by omega])
  have ce := HA.re.cell (o := 0) rfl
  have cm := HA.rm.cell (o := 0) rfl
  have co := HA.ro.cell (o := 0) rfl
  have fe := HA.re.frozen 0
  have G := hide F
  have HA1 := HA.setE F (e + t)
  have HU1 := hide (show Upd (fun b => b = pe ∨ b = pl ∨ b = pw) w (w.setCell ⟨pe, 0, none⟩ (.int .i64 (e + t))) from Upd.setCell _ _ _ (.inl rfl))
  have ce1 := HA1.re.cell (o := 0) rfl
  have cm1 := HA1.rm.cell (o := 0) rfl
  have co1 := HA1.ro.cell (o := 0) rfl
  have cl1 := HA1.rl.cell (o := 0) rfl
  have cw1 := HA1.rw.cell (o := 0) rfl
  have fl1 := HA1.rl.frozen 0
  have fw1 := HA1.rw.frozen 0
  have HB := hide HA1
  have ll : (l == 0) = true := beq_iff_eq.2 hl
  clear HA F HA1
  subst hl
  have HW2 := HB.out.setW G.out (s)
  have ce2 := HW2.re.cell (o := 0) rfl
  have cm2 := HW2.rm.cell (o := 0) rfl
  have co2 := HW2.ro.cell (o := 0) rfl
  have cl2 := HW2.rl.cell (o := 0) rfl
  have fl2 := HW2.rl.frozen 0
  have HL3 := HW2.setL G.out (e + t - e)
  have ce3 := HL3.re.cell (o := 0) rfl
  have cm3 := HL3.rm.cell (o := 0) rfl
  have HC := hide (HL3.drew)
  clear HW2 HL3
  go_enter Try.func48, Try.ntmps48
  go_wp2_with fail
  go_region
  all_goals go_wp2_with fail
  go_ret
  exact TakePost.mk Hr.out rfl HC.out (((HU1.out.trans (Upd.setCell _ ⟨pw, 0, none⟩ (.int .i64 (s)) (S := (· = pw)) rfl) (fun _ h => .inl (.inr (.inr h)))).trans (Upd.setCell _ ⟨pl, 0, none⟩ (.int .i64 (e + t - e)) (S := (· = pl)) rfl) (fun _ h => .inl (.inr (.inl h)))).trans (Upd.drew (S := fun _ => False) _) (fun _ h => h.elim))

set_option maxHeartbeats 800000 in
set_option maxRecDepth 100000 in
theorem take_lt_ge_C (pe pm po pl pw : Nat) (M o e who l s t : Int) (w : World) (F : Five pe pm po pl pw) (HA : AtVars w pe pm po pl pw M o ⟨e, who, l⟩) (hM0 : 1 ≤ M) (hM1 : M ≤ 9223372036854775807) (he0 : 0 ≤ e) (he1 : e < M) (ho0 : 0 ≤ o) (_ho1 : o < M)
    (ht0 : 1 ≤ t) (ht1 : t ≤ 9223372036854775807) (hl0 : 0 ≤ l) (hl1 : l ≤ e) (hs0 : -9223372036854775808 ≤ s) (hs1 : s ≤ 9223372036854775807) (hmn : t ≤ M - e) (hmx : -1 ≤ s) (hc : o < e + t) (hl : l ≠ 0) (hw : s = who) :
    Calls Try.prog 48 #[.int .i64 s, .int .i64 t, .pointer (some ⟨pe, 0, none⟩), .pointer (some ⟨pm, 0, none⟩), .pointer (some ⟨po, 0, none⟩), .pointer (some ⟨pl, 0, none⟩), .pointer (some ⟨pw, 0, none⟩)] w (TakePost pe pm po pl pw M o ⟨e, who, l⟩ s t w) := by
  have Hr := hide (show takeL M o ⟨e, who, l⟩ s t = (⟨e + t, who, l + (e + t - e)⟩, decide (e + t < M)) from by
    have q1 : e + min t (M - e) = e + t := by omega
    have q2 : max s (-1) = s := by omega
    simp only [takeL, q1, q2]
    rw [if_neg (by omega), if_neg hl, if_pos hw])
  have ce := HA.re.cell (o := 0) rfl
  have cm := HA.rm.cell (o := 0) rfl
  have co := HA.ro.cell (o := 0) rfl
  have fe := HA.re.frozen 0
  have G := hide F
  have HA1 := HA.setE F (e + t)
  have HU1 := hide (show Upd (fun b => b = pe ∨ b = pl ∨ b = pw) w (w.setCell ⟨pe, 0, none⟩ (.int .i64 (e + t))) from Upd.setCell _ _ _ (.inl rfl))
  have ce1 := HA1.re.cell (o := 0) rfl
  have cm1 := HA1.rm.cell (o := 0) rfl
  have co1 := HA1.ro.cell (o := 0) rfl
  have cl1 := HA1.rl.cell (o := 0) rfl
  have cw1 := HA1.rw.cell (o := 0) rfl
  have fl1 := HA1.rl.frozen 0
  have fw1 := HA1.rw.frozen 0
  have HB := hide HA1
  have ll : (l == 0) = false := beq_eq_false_iff_ne.2 hl
  have lw : (s == who) = true := beq_iff_eq.2 hw
  have HL2 := HB.out.setL G.out (l + (e + t - e))
  have ce2 := HL2.re.cell (o := 0) rfl
  have cm2 := HL2.rm.cell (o := 0) rfl
  clear HL2
  clear HA F HA1 hw
  go_enter Try.func48, Try.ntmps48
  go_wp2_with fail
  go_ret
  exact TakePost.mk Hr.out rfl (HB.out.setL G.out _) (HU1.out.trans (Upd.setCell _ _ _ (S := (· = pl)) rfl) (fun _ h => .inl (.inr (.inl h))))

set_option maxHeartbeats 800000 in
set_option maxRecDepth 100000 in
theorem take_lt_ge_D (pe pm po pl pw : Nat) (M o e who l s t : Int) (w : World) (F : Five pe pm po pl pw) (HA : AtVars w pe pm po pl pw M o ⟨e, who, l⟩) (hM0 : 1 ≤ M) (hM1 : M ≤ 9223372036854775807) (he0 : 0 ≤ e) (he1 : e < M) (ho0 : 0 ≤ o) (_ho1 : o < M)
    (_ht0 : 1 ≤ t) (_ht1 : t ≤ 9223372036854775807) (_hl0 : 0 ≤ l) (_hl1 : l ≤ e) (hs0 : -9223372036854775808 ≤ s) (hs1 : s ≤ 9223372036854775807) (hmn : t ≤ M - e) (hmx : -1 ≤ s) (hc : o < e + t) (hl : l ≠ 0) (hw : s ≠ who) :
    Calls Try.prog 48 #[.int .i64 s, .int .i64 t, .pointer (some ⟨pe, 0, none⟩), .pointer (some ⟨pm, 0, none⟩), .pointer (some ⟨po, 0, none⟩), .pointer (some ⟨pl, 0, none⟩), .pointer (some ⟨pw, 0, none⟩)] w (TakePost pe pm po pl pw M o ⟨e, who, l⟩ s t w) := by
  have Hr := hide (show takeL M o ⟨e, who, l⟩ s t = (⟨e + t, who, l⟩, false) from by
    have q1 : e + min t (M - e) = e + t := by omega
    have q2 : max s (-1) = s := by omega
    simp only [takeL, q1, q2]
    rw [if_neg (by omega), if_neg hl, if_neg hw])
  have ce := HA.re.cell (o := 0) rfl
  have cm := HA.rm.cell (o := 0) rfl
  have co := HA.ro.cell (o := 0) rfl
  have fe := HA.re.frozen 0
  have G := hide F
  have HA1 := HA.setE F (e + t)
  have HU1 := hide (show Upd (fun b => b = pe ∨ b = pl ∨ b = pw) w (w.setCell ⟨pe, 0, none⟩ (.int .i64 (e + t))) from Upd.setCell _ _ _ (.inl rfl))
  have ce1 := HA1.re.cell (o := 0) rfl
  have cm1 := HA1.rm.cell (o := 0) rfl
  have co1 := HA1.ro.cell (o := 0) rfl
  have cl1 := HA1.rl.cell (o := 0) rfl
  have cw1 := HA1.rw.cell (o := 0) rfl
  have fl1 := HA1.rl.frozen 0
  have fw1 := HA1.rw.frozen 0
  have HB := hide HA1
  have ll : (l == 0) = false := beq_eq_false_iff_ne.2 hl
  have lw : (s == who) = false := beq_eq_false_iff_ne.2 hw
  clear HA F HA1 hw
  go_enter Try.func48, Try.ntmps48
  go_wp2_with fail
  go_ret
  exact TakePost.mk Hr.out rfl HB.out HU1.out

set_option maxHeartbeats 800000 in
set_option maxRecDepth 100000 in
theorem take_lt_lt_A (pe pm po pl pw : Nat) (M o e who l s t : Int) (w : World) (F : Five pe pm po pl pw) (HA : AtVars w pe pm po pl pw M o ⟨e, who, l⟩) (hM0 : 1 ≤ M) (hM1 : M ≤ 9223372036854775807) (he0 : 0 ≤ e) (he1 : e < M) (_ho0 : 0 ≤ o) (ho1 : o < M)
    (ht0 : 1 ≤ t) (ht1 : t ≤ 9223372036854775807) (_hl0 : 0 ≤ l) (_hl1 : l ≤ e) (hs0 : -9223372036854775808 ≤ s) (hs1 : s ≤ 9223372036854775807) (hmn : t ≤ M - e) (hmx : s < -1) (hc : e + t ≤ o) :
    Calls Try.prog 48 #[.int .i64 s, .int .i64 t, .pointer (some ⟨pe, 0, none⟩), .pointer (some ⟨pm, 0, none⟩), .pointer (some ⟨po, 0, none⟩), .pointer (some ⟨pl, 0, none⟩), .pointer (some ⟨pw, 0, none⟩)] w (TakePost pe pm po pl pw M o ⟨e, who, l⟩ s t w) := by
  have Hr := hide (show takeL M o ⟨e, who, l⟩ s t = (⟨e + t, who, l⟩, decide (e + t < M)) from by
    have q1 : e + min t (M - e) = e + t := by omega
    have q2 : max s (-1) = -1 := by omega
    simp only [takeL, q1, q2]
    rw [if_pos hc])
  have ce := HA.re.cell (o := 0) rfl
  have cm := HA.rm.cell (o := 0) rfl
  have co := HA.ro.cell (o := 0) rfl
  have fe := HA.re.frozen 0
  have G := hide F
  have HA1 := HA.setE F (e + t)
  have HU1 := hide (show Upd (fun b => b = pe ∨ b = pl ∨ b = pw) w (w.setCell ⟨pe, 0, none⟩ (.int .i64 (e + t))) from Upd.setCell _ _ _ (.inl rfl))
  have ce1 := HA1.re.cell (o := 0) rfl
  have cm1 := HA1.rm.cell (o := 0) rfl
  have co1 := HA1.ro.cell (o := 0) rfl
  have cl1 := HA1.rl.cell (o := 0) rfl
  have cw1 := HA1.rw.cell (o := 0) rfl
  have fl1 := HA1.rl.frozen 0
  have fw1 := HA1.rw.frozen 0
  have HB := hide HA1
  clear HA F HA1
  go_enter Try.func48, Try.ntmps48
  go_wp2_with fail
  go_ret
  exact TakePost.mk Hr.out rfl HB.out HU1.out

set_option maxHeartbeats 800000 in
set_option maxRecDepth 100000 in
theorem take_lt_lt_Ble (pe pm po pl pw : Nat) (M o e who l s t : Int) (w : World) (F : Five pe pm po pl pw) (HA : AtVars w pe pm po pl pw M o ⟨e, who, l⟩) (hM0 : 1 ≤ M) (hM1 : M ≤ 9223372036854775807) (he0 : 0 ≤ e) (he1 : e < M) (ho0 : 0 ≤ o) (ho1 : o < M)
    (_ht0 : 1 ≤ t) (_ht1 : t ≤ 9223372036854775807) (hl0 : 0 ≤ l) (hl1 : l ≤ e) (hs0 : -9223372036854775808 ≤ s) (hs1 : s ≤ 9223372036854775807) (hmn : t ≤ M - e) (hmx : s < -1) (hc : o < e + t) (hl : l = 0) (hf : e < o) :
    Calls Try.prog 48 #[.int .i64 s, .int .i64 t, .pointer (some ⟨pe, 0, none⟩), .pointer (some ⟨pm, 0, none⟩), .pointer (some ⟨po, 0, none⟩), .pointer (some ⟨pl, 0, none⟩), .pointer (some ⟨pw, 0, none⟩)] w (TakePost pe pm po pl pw M o ⟨e, who, l⟩ s t w) := by
  have Hr := hide (show takeL M o ⟨e, who, l⟩ s t = (⟨e + t, -1, e + t - o⟩, decide (e + t < M)) from by
    have q1 : e + min t (M - e) = e + t := by omega
    have q2 : max s (-1) = -1 := by omega
    simp only [takeL, q1, q2]
    rw [if_neg (by omega), if_pos hl, show max e o = o by omega])
  have ce := HA.re.cell (o := 0) rfl
  have cm := HA.rm.cell (o := 0) rfl
  have co := HA.ro.cell (o := 0) rfl
  have fe := HA.re.frozen 0
  have G := hide F
  have HA1 := HA.setE F (e + t)
  have HU1 := hide (show Upd (fun b => b = pe ∨ b = pl ∨ b = pw) w (w.setCell ⟨pe, 0, none⟩ (.int .i64 (e + t))) from Upd.setCell _ _ _ (.inl rfl))
  have ce1 := HA1.re.cell (o := 0) rfl
  have cm1 := HA1.rm.cell (o := 0) rfl
  have co1 := HA1.ro.cell (o := 0) rfl
  have cl1 := HA1.rl.cell (o := 0) rfl
  have cw1 := HA1.rw.cell (o := 0) rfl
  have fl1 := HA1.rl.frozen 0
  have fw1 := HA1.rw.frozen 0
  have HB := hide HA1
  have ll : (l == 0) = true := beq_iff_eq.2 hl
  clear HA F HA1
  subst hl
  have HW2 := HB.out.setW G.out (-1)
  have ce2 := HW2.re.cell (o := 0) rfl
  have cm2 := HW2.rm.cell (o := 0) rfl
  have co2 := HW2.ro.cell (o := 0) rfl
  have cl2 := HW2.rl.cell (o := 0) rfl
  have fl2 := HW2.rl.frozen 0
  have HL3 := HW2.setL G.out (e + t - o)
  have ce3 := HL3.re.cell (o := 0) rfl
  have cm3 := HL3.rm.cell (o := 0) rfl
  have HC := hide (HL3.drew)
  clear HW2 HL3
  go_enter Try.func48, Try.ntmps48
  go_wp2_with fail
  go_region
  all_goals go_wp2_with fail
  go_ret
  exact TakePost.mk Hr.out rfl HC.out (((HU1.out.trans (Upd.setCell _ ⟨pw, 0, none⟩ (.int .i64 (-1)) (S := (· = pw)) rfl) (fun _ h => .inl (.inr (.inr h)))).trans (Upd.setCell _ ⟨pl, 0, none⟩ (.int .i64 (e + t - o)) (S := (· = pl)) rfl) (fun _ h => .inl (.inr (.inl h)))).trans (Upd.drew (S := fun _ => False) _) (fun _ h => h.elim))

set_option maxHeartbeats 800000 in
set_option maxRecDepth 100000 in
theorem take_lt_lt_Bgt (pe pm po pl pw : Nat) (M o e who l s t : Int) (w : World) (F : Five pe pm po pl pw) (HA : AtVars w pe pm po pl pw M o ⟨e, who, l⟩) (hM0 : 1 ≤ M) (hM1 : M ≤ 9223372036854775807) (he0 : 0 ≤ e) (he1 : e < M) (ho0 : 0 ≤ o) (_ho1 : o < M)
    (ht0 : 1 ≤ t) (ht1 : t ≤ 9223372036854775807) (hl0 : 0 ≤ l) (hl1 : l ≤ e) (hs0 : -9223372036854775808 ≤ s) (hs1 : s ≤ 9223372036854775807) (hmn : t ≤ M - e) (hmx : s < -1) (hc : o < e + t) (hl : l = 0) (hf : o ≤ e) :
    Calls Try.prog 48 #[.int .i64 s, .int .i64 t, .pointer (some ⟨pe, 0, none⟩), .pointer (some ⟨pm, 0, none⟩), .pointer (some ⟨po, 0, none⟩), .pointer (some ⟨pl, 0, none⟩), .pointer (some ⟨pw, 0, none⟩)] w (TakePost pe pm po pl pw M o ⟨e, who, l⟩ s t w) := by
  have Hr := hide (show takeL M o ⟨e, who, l⟩ s t = (⟨e + t, -1, e + t - e⟩, decide (e + t < M)) from by
    have q1 : e + min t (M - e) = e + t := by omega
    have q2 : max s (-1) = -1 := by omega
    simp only [takeL, q1, q2]
    rw [if_neg (by omega), if_pos hl, show max e o = e by omega])
  have ce := HA.re.cell (o := 0) rfl
  have cm := HA.rm.cell (o := 0) rfl
  have co := HA.ro.cell (o := 0) rfl
  have fe := HA.re.frozen 0
  have G := hide F
  have HA1 := HA.setE F (e + t)
  have HU1 := hide (show Upd (fun b => b = pe ∨ b = pl ∨ b = pw) w (w.setCell ⟨pe, 0, none⟩ (.int .i64 (e + t))) from Upd.setCell _ _ _ (.inl rfl))
  have ce1 := HA1.re.cell (o := 0) rfl
  have cm1 := HA1.rm.cell (o := 0) rfl
  have co1 := HA1.ro.cell (o := 0) rfl
  have cl1 := HA1.rl.cell (o := 0) rfl
  have cw1 := HA1.rw.cell (o := 0) rfl
  have fl1 := HA1.rl.frozen 0
  have fw1 := HA1.rw.frozen 0
  have HB := hide HA1
  have ll : (l == 0) = true := beq_iff_eq.2 hl
  clear HA F HA1
  subst hl
  have HW2 := HB.out.setW G.out (-1)
  have ce2 := HW2.re.cell (o := 0) rfl
  have cm2 := HW2.rm.cell (o := 0) rfl
  have co2 := HW2.ro.cell (o := 0) rfl
  have cl2 := HW2.rl.cell (o := 0) rfl
  have fl2 := HW2.rl.frozen 0
  have HL3 := HW2.setL G.out (e + t - e)
  have ce3 := HL3.re.cell (o := 0) rfl
  have cm3 := HL3.rm.cell (o := 0) rfl
  have HC := hide (HL3.drew)
  clear HW2 HL3
  go_enter Try.func48, Try.ntmps48
  go_wp2_with fail
  go_region
  all_goals go_wp2_with fail
  go_ret
  exact TakePost.mk Hr.out rfl HC.out (((HU1.out.trans (Upd.setCell _ ⟨pw, 0, none⟩ (.int .i64 (-1)) (S := (· = pw)) rfl) (fun _ h => .inl (.inr (.inr h)))).trans (Upd.setCell _ ⟨pl, 0, none⟩ (.int .i64 (e + t - e)) (S := (· = pl)) rfl) (fun _ h => .inl (.inr (.inl h)))).trans (Upd.drew (S := fun _ => False) _) (fun _ h => h.elim))

set_option maxHeartbeats 800000 in
set_option maxRecDepth 100000 in
theorem take_lt_lt_C (pe pm po pl pw : Nat) (M o e who l s t : Int) (w : World) (F : Five pe pm po pl pw) (HA : AtVars w pe pm po pl pw M o ⟨e, who, l⟩) (hM0 : 1 ≤ M) (hM1 : M ≤ 9223372036854775807) (he0 : 0 ≤ e) (he1 : e < M) (ho0 : 0 ≤ o) (_ho1 : o < M)
    (ht0 : 1 ≤ t) (ht1 : t ≤ 9223372036854775807) (hl0 : 0 ≤ l) (hl1 : l ≤ e) (hs0 : -9223372036854775808 ≤ s) (hs1 : s ≤ 9223372036854775807) (hmn : t ≤ M - e) (hmx : s < -1) (hc : o < e + t) (hl : l ≠ 0) (hw : -1 = who) :
    Calls Try.prog 48 #[.int .i64 s, .int .i64 t, .pointer (some ⟨pe, 0, none⟩), .pointer (some ⟨pm, 0, none⟩), .pointer (some ⟨po, 0, none⟩), .pointer (some ⟨pl, 0, none⟩), .pointer (some ⟨pw, 0, none⟩)] w (TakePost pe pm po pl pw M o ⟨e, who, l⟩ s t w) := by
  have Hr := hide (show takeL M o ⟨e, who, l⟩ s t = (⟨e + t, who, l + (e + t - e)⟩, decide (e + t < M)) from by
    have q1 : e + min t (M - e) = e + t := by omega
    have q2 : max s (-1) = -1 := by omega
    simp only [takeL, q1, q2]
    rw [if_neg (by omega), if_neg hl, if_pos hw])
  have ce := HA.re.cell (o := 0) rfl
  have cm := HA.rm.cell (o := 0) rfl
  have co := HA.ro.cell (o := 0) rfl
  have fe := HA.re.frozen 0
  have G := hide F
  have HA1 := HA.setE F (e + t)
  have HU1 := hide (show Upd (fun b => b = pe ∨ b = pl ∨ b = pw) w (w.setCell ⟨pe, 0, none⟩ (.int .i64 (e + t))) from Upd.setCell _ _ _ (.inl rfl))
  have ce1 := HA1.re.cell (o := 0) rfl
  have cm1 := HA1.rm.cell (o := 0) rfl
  have co1 := HA1.ro.cell (o := 0) rfl
  have cl1 := HA1.rl.cell (o := 0) rfl
  have cw1 := HA1.rw.cell (o := 0) rfl
  have fl1 := HA1.rl.frozen 0
  have fw1 := HA1.rw.frozen 0
  have HB := hide HA1
  have ll : (l == 0) = false := beq_eq_false_iff_ne.2 hl
  have lw : (-1 == who) = true := beq_iff_eq.2 hw
  have HL2 := HB.out.setL G.out (l + (e + t - e))
  have ce2 := HL2.re.cell (o := 0) rfl
  have cm2 := HL2.rm.cell (o := 0) rfl
  clear HL2
  clear HA F HA1 hw
  go_enter Try.func48, Try.ntmps48
  go_wp2_with fail
  go_ret
  exact TakePost.mk Hr.out rfl (HB.out.setL G.out _) (HU1.out.trans (Upd.setCell _ _ _ (S := (· = pl)) rfl) (fun _ h => .inl (.inr (.inl h))))

set_option maxHeartbeats 800000 in
set_option maxRecDepth 100000 in
theorem take_lt_lt_D (pe pm po pl pw : Nat) (M o e who l s t : Int) (w : World) (F : Five pe pm po pl pw) (HA : AtVars w pe pm po pl pw M o ⟨e, who, l⟩) (hM0 : 1 ≤ M) (hM1 : M ≤ 9223372036854775807) (he0 : 0 ≤ e) (he1 : e < M) (ho0 : 0 ≤ o) (_ho1 : o < M)
    (_ht0 : 1 ≤ t) (_ht1 : t ≤ 9223372036854775807) (_hl0 : 0 ≤ l) (_hl1 : l ≤ e) (hs0 : -9223372036854775808 ≤ s) (hs1 : s ≤ 9223372036854775807) (hmn : t ≤ M - e) (hmx : s < -1) (hc : o < e + t) (hl : l ≠ 0) (hw : -1 ≠ who) :
    Calls Try.prog 48 #[.int .i64 s, .int .i64 t, .pointer (some ⟨pe, 0, none⟩), .pointer (some ⟨pm, 0, none⟩), .pointer (some ⟨po, 0, none⟩), .pointer (some ⟨pl, 0, none⟩), .pointer (some ⟨pw, 0, none⟩)] w (TakePost pe pm po pl pw M o ⟨e, who, l⟩ s t w) := by
  have Hr := hide (show takeL M o ⟨e, who, l⟩ s t = (⟨e + t, who, l⟩, false) from by
    have q1 : e + min t (M - e) = e + t := by omega
    have q2 : max s (-1) = -1 := by omega
    simp only [takeL, q1, q2]
    rw [if_neg (by omega), if_neg hl, if_neg hw])
  have ce := HA.re.cell (o := 0) rfl
  have cm := HA.rm.cell (o := 0) rfl
  have co := HA.ro.cell (o := 0) rfl
  have fe := HA.re.frozen 0
  have G := hide F
  have HA1 := HA.setE F (e + t)
  have HU1 := hide (show Upd (fun b => b = pe ∨ b = pl ∨ b = pw) w (w.setCell ⟨pe, 0, none⟩ (.int .i64 (e + t))) from Upd.setCell _ _ _ (.inl rfl))
  have ce1 := HA1.re.cell (o := 0) rfl
  have cm1 := HA1.rm.cell (o := 0) rfl
  have co1 := HA1.ro.cell (o := 0) rfl
  have cl1 := HA1.rl.cell (o := 0) rfl
  have cw1 := HA1.rw.cell (o := 0) rfl
  have fl1 := HA1.rl.frozen 0
  have fw1 := HA1.rw.frozen 0
  have HB := hide HA1
  have ll : (l == 0) = false := beq_eq_false_iff_ne.2 hl
  have lw : (-1 == who) = false := beq_eq_false_iff_ne.2 hw
  clear HA F HA1 hw
  go_enter Try.func48, Try.ntmps48
  go_wp2_with fail
  go_ret
  exact TakePost.mk Hr.out rfl HB.out HU1.out

set_option maxHeartbeats 800000 in
set_option maxRecDepth 100000 in
theorem take_ge_ge_Ble (pe pm po pl pw : Nat) (M o e who l s t : Int) (w : World) (F : Five pe pm po pl pw) (HA : AtVars w pe pm po pl pw M o ⟨e, who, l⟩) (hM0 : 1 ≤ M) (hM1 : M ≤ 9223372036854775807) (he0 : 0 ≤ e) (he1 : e < M) (_ho0 : 0 ≤ o) (ho1 : o < M)
    (ht0 : 1 ≤ t) (ht1 : t ≤ 9223372036854775807) (hl0 : 0 ≤ l) (hl1 : l ≤ e) (hs0 : -9223372036854775808 ≤ s) (hs1 : s ≤ 9223372036854775807) (hmn : M - e < t) (hmx : -1 ≤ s) (_hc : o < e + (M - e)) (hl : l = 0) (hf : e < o) :
    Calls Try.prog 48 #[.int .i64 s, .int .i64 t, .pointer (some ⟨pe, 0, none⟩), .pointer (some ⟨pm, 0, none⟩), .pointer (some ⟨po, 0, none⟩), .pointer (some ⟨pl, 0, none⟩), .pointer (some ⟨pw, 0, none⟩)] w (TakePost pe pm po pl pw M o ⟨e, who, l⟩ s t w) := by
  have Hr := hide (show takeL M o ⟨e, who, l⟩ s t = (⟨e + (M - e), s, e + (M - e) - o⟩, decide (e + (M - e) < M)) from by
    have q1 : e + min t (M - e) = e + (M - e) := by omega
    have q2 : max s (-1) = s := by omega
    simp only [takeL, q1, q2]
    rw [if_neg (by omega), if_pos hl, show max e o = o by omega])
  have ce := HA.re.cell (o := 0) rfl
  have cm := HA.rm.cell (o := 0) rfl
  have co := HA.ro.cell (o := 0) rfl
  have fe := HA.re.frozen 0
  have G := hide F
  have HA1 := HA.setE F (e + (M - e))
  have HU1 := hide (show Upd (fun b => b = pe ∨ b = pl ∨ b = pw) w (w.setCell ⟨pe, 0, none⟩ (.int .i64 (e + (M - e)))) from Upd.setCell _ _ _ (.inl rfl))
  have ce1 := HA1.re.cell (o := 0) rfl
  have cm1 := HA1.rm.cell (o := 0) rfl
  have co1 := HA1.ro.cell (o := 0) rfl
  have cl1 := HA1.rl.cell (o := 0) rfl
  have cw1 := HA1.rw.cell (o := 0) rfl
  have fl1 := HA1.rl.frozen 0
  have fw1 := HA1.rw.frozen 0
  have HB := hide HA1
  have ll : (l == 0) = true := beq_iff_eq.2 hl
  clear HA F HA1
  subst hl
  have HW2 := HB.out.setW G.out (s)
  have ce2 := HW2.re.cell (o := 0) rfl
  have cm2 := HW2.rm.cell (o := 0) rfl
  have co2 := HW2.ro.cell (o := 0) rfl
  have cl2 := HW2.rl.cell (o := 0) rfl
  have fl2 := HW2.rl.frozen 0
  have HL3 := HW2.setL G.out (e + (M - e) - o)
  have ce3 := HL3.re.cell (o := 0) rfl
  have cm3 := HL3.rm.cell (o := 0) rfl
  have HC := hide (HL3.drew)
  clear HW2 HL3
  go_enter Try.func48, Try.ntmps48
  go_wp2_with fail
  go_region
  all_goals go_wp2_with fail
  go_ret
  exact TakePost.mk Hr.out rfl HC.out (((HU1.out.trans (Upd.setCell _ ⟨pw, 0, none⟩ (.int .i64 (s)) (S := (· = pw)) rfl) (fun _ h => .inl (.inr (.inr h)))).trans (Upd.setCell _ ⟨pl, 0, none⟩ (.int .i64 (e + (M - e) - o)) (S := (· = pl)) rfl) (fun _ h => .inl (.inr (.inl h)))).trans (Upd.drew (S := fun _ => False) _) (fun _ h => h.elim))

set_option maxHeartbeats 800000 in
set_option maxRecDepth 100000 in
theorem take_ge_ge_Bgt (pe pm po pl pw : Nat) (M o e who l s t : Int) (w : World) (F : Five pe pm po pl pw) (HA : AtVars w pe pm po pl pw M o ⟨e, who, l⟩) (hM0 : 1 ≤ M) (hM1 : M ≤ 9223372036854775807) (he0 : 0 ≤ e) (he1 : e < M) (_ho0 : 0 ≤ o) (ho1 : o < M)
    (ht0 : 1 ≤ t) (ht1 : t ≤ 9223372036854775807) (hl0 : 0 ≤ l) (hl1 : l ≤ e) (hs0 : -9223372036854775808 ≤ s) (hs1 : s ≤ 9223372036854775807) (hmn : M - e < t) (hmx : -1 ≤ s) (_hc : o < e + (M - e)) (hl : l = 0) (hf : o ≤ e) :
    Calls Try.prog 48 #[.int .i64 s, .int .i64 t, .pointer (some ⟨pe, 0, none⟩), .pointer (some ⟨pm, 0, none⟩), .pointer (some ⟨po, 0, none⟩), .pointer (some ⟨pl, 0, none⟩), .pointer (some ⟨pw, 0, none⟩)] w (TakePost pe pm po pl pw M o ⟨e, who, l⟩ s t w) := by
  have Hr := hide (show takeL M o ⟨e, who, l⟩ s t = (⟨e + (M - e), s, e + (M - e) - e⟩, decide (e + (M - e) < M)) from by
    have q1 : e + min t (M - e) = e + (M - e) := by omega
    have q2 : max s (-1) = s := by omega
    simp only [takeL, q1, q2]
    rw [if_neg (by omega), if_pos hl, show max e o = e by omega])
  have ce := HA.re.cell (o := 0) rfl
  have cm := HA.rm.cell (o := 0) rfl
  have co := HA.ro.cell (o := 0) rfl
  have fe := HA.re.frozen 0
  have G := hide F
  have HA1 := HA.setE F (e + (M - e))
  have HU1 := hide (show Upd (fun b => b = pe ∨ b = pl ∨ b = pw) w (w.setCell ⟨pe, 0, none⟩ (.int .i64 (e + (M - e)))) from Upd.setCell _ _ _ (.inl rfl))
  have ce1 := HA1.re.cell (o := 0) rfl
  have cm1 := HA1.rm.cell (o := 0) rfl
  have co1 := HA1.ro.cell (o := 0) rfl
  have cl1 := HA1.rl.cell (o := 0) rfl
  have cw1 := HA1.rw.cell (o := 0) rfl
  have fl1 := HA1.rl.frozen 0
  have fw1 := HA1.rw.frozen 0
  have HB := hide HA1
  have ll : (l == 0) = true := beq_iff_eq.2 hl
  clear HA F HA1
  subst hl
  have HW2 := HB.out.setW G.out (s)
  have ce2 := HW2.re.cell (o := 0) rfl
  have cm2 := HW2.rm.cell (o := 0) rfl
  have co2 := HW2.ro.cell (o := 0) rfl
  have cl2 := HW2.rl.cell (o := 0) rfl
  have fl2 := HW2.rl.frozen 0
  have HL3 := HW2.setL G.out (e + (M - e) - e)
  have ce3 := HL3.re.cell (o := 0) rfl
  have cm3 := HL3.rm.cell (o := 0) rfl
  have HC := hide (HL3.drew)
  clear HW2 HL3
  go_enter Try.func48, Try.ntmps48
  go_wp2_with fail
  go_region
  all_goals go_wp2_with fail
  go_ret
  exact TakePost.mk Hr.out rfl HC.out (((HU1.out.trans (Upd.setCell _ ⟨pw, 0, none⟩ (.int .i64 (s)) (S := (· = pw)) rfl) (fun _ h => .inl (.inr (.inr h)))).trans (Upd.setCell _ ⟨pl, 0, none⟩ (.int .i64 (e + (M - e) - e)) (S := (· = pl)) rfl) (fun _ h => .inl (.inr (.inl h)))).trans (Upd.drew (S := fun _ => False) _) (fun _ h => h.elim))

set_option maxHeartbeats 800000 in
set_option maxRecDepth 100000 in
theorem take_ge_ge_C (pe pm po pl pw : Nat) (M o e who l s t : Int) (w : World) (F : Five pe pm po pl pw) (HA : AtVars w pe pm po pl pw M o ⟨e, who, l⟩) (hM0 : 1 ≤ M) (hM1 : M ≤ 9223372036854775807) (he0 : 0 ≤ e) (he1 : e < M) (_ho0 : 0 ≤ o) (ho1 : o < M)
    (ht0 : 1 ≤ t) (ht1 : t ≤ 9223372036854775807) (hl0 : 0 ≤ l) (hl1 : l ≤ e) (hs0 : -9223372036854775808 ≤ s) (hs1 : s ≤ 9223372036854775807) (hmn : M - e < t) (hmx : -1 ≤ s) (_hc : o < e + (M - e)) (hl : l ≠ 0) (hw : s = who) :
    Calls Try.prog 48 #[.int .i64 s, .int .i64 t, .pointer (some ⟨pe, 0, none⟩), .pointer (some ⟨pm, 0, none⟩), .pointer (some ⟨po, 0, none⟩), .pointer (some ⟨pl, 0, none⟩), .pointer (some ⟨pw, 0, none⟩)] w (TakePost pe pm po pl pw M o ⟨e, who, l⟩ s t w) := by
  have Hr := hide (show takeL M o ⟨e, who, l⟩ s t = (⟨e + (M - e), who, l + (e + (M - e) - e)⟩, decide (e + (M - e) < M)) from by
    have q1 : e + min t (M - e) = e + (M - e) := by omega
    have q2 : max s (-1) = s := by omega
    simp only [takeL, q1, q2]
    rw [if_neg (by omega), if_neg hl, if_pos hw])
  have ce := HA.re.cell (o := 0) rfl
  have cm := HA.rm.cell (o := 0) rfl
  have co := HA.ro.cell (o := 0) rfl
  have fe := HA.re.frozen 0
  have G := hide F
  have HA1 := HA.setE F (e + (M - e))
  have HU1 := hide (show Upd (fun b => b = pe ∨ b = pl ∨ b = pw) w (w.setCell ⟨pe, 0, none⟩ (.int .i64 (e + (M - e)))) from Upd.setCell _ _ _ (.inl rfl))
  have ce1 := HA1.re.cell (o := 0) rfl
  have cm1 := HA1.rm.cell (o := 0) rfl
  have co1 := HA1.ro.cell (o := 0) rfl
  have cl1 := HA1.rl.cell (o := 0) rfl
  have cw1 := HA1.rw.cell (o := 0) rfl
  have fl1 := HA1.rl.frozen 0
  have fw1 := HA1.rw.frozen 0
  have HB := hide HA1
  have ll : (l == 0) = false := beq_eq_false_iff_ne.2 hl
  have lw : (s == who) = true := beq_iff_eq.2 hw
  have HL2 := HB.out.setL G.out (l + (e + (M - e) - e))
  have ce2 := HL2.re.cell (o := 0) rfl
  have cm2 := HL2.rm.cell (o := 0) rfl
  clear HL2
  clear HA F HA1 hw
  go_enter Try.func48, Try.ntmps48
  go_wp2_with fail
  go_ret
  exact TakePost.mk Hr.out rfl (HB.out.setL G.out _) (HU1.out.trans (Upd.setCell _ _ _ (S := (· = pl)) rfl) (fun _ h => .inl (.inr (.inl h))))

set_option maxHeartbeats 800000 in
set_option maxRecDepth 100000 in
theorem take_ge_ge_D (pe pm po pl pw : Nat) (M o e who l s t : Int) (w : World) (F : Five pe pm po pl pw) (HA : AtVars w pe pm po pl pw M o ⟨e, who, l⟩) (hM0 : 1 ≤ M) (hM1 : M ≤ 9223372036854775807) (he0 : 0 ≤ e) (he1 : e < M) (_ho0 : 0 ≤ o) (ho1 : o < M)
    (ht0 : 1 ≤ t) (ht1 : t ≤ 9223372036854775807) (_hl0 : 0 ≤ l) (_hl1 : l ≤ e) (hs0 : -9223372036854775808 ≤ s) (hs1 : s ≤ 9223372036854775807) (hmn : M - e < t) (hmx : -1 ≤ s) (_hc : o < e + (M - e)) (hl : l ≠ 0) (hw : s ≠ who) :
    Calls Try.prog 48 #[.int .i64 s, .int .i64 t, .pointer (some ⟨pe, 0, none⟩), .pointer (some ⟨pm, 0, none⟩), .pointer (some ⟨po, 0, none⟩), .pointer (some ⟨pl, 0, none⟩), .pointer (some ⟨pw, 0, none⟩)] w (TakePost pe pm po pl pw M o ⟨e, who, l⟩ s t w) := by
  have Hr := hide (show takeL M o ⟨e, who, l⟩ s t = (⟨e + (M - e), who, l⟩, false) from by
    have q1 : e + min t (M - e) = e + (M - e) := by omega
    have q2 : max s (-1) = s := by omega
    simp only [takeL, q1, q2]
    rw [if_neg (by omega), if_neg hl, if_neg hw])
  have ce := HA.re.cell (o := 0) rfl
  have cm := HA.rm.cell (o := 0) rfl
  have co := HA.ro.cell (o := 0) rfl
  have fe := HA.re.frozen 0
  have G := hide F
  have HA1 := HA.setE F (e + (M - e))
  have HU1 := hide (show Upd (fun b => b = pe ∨ b = pl ∨ b = pw) w (w.setCell ⟨pe, 0, none⟩ (.int .i64 (e + (M - e)))) from Upd.setCell _ _ _ (.inl rfl))
  have ce1 := HA1.re.cell (o := 0) rfl
  have cm1 := HA1.rm.cell (o := 0) rfl
  have co1 := HA1.ro.cell (o := 0) rfl
  have cl1 := HA1.rl.cell (o := 0) rfl
  have cw1 := HA1.rw.cell (o := 0) rfl
  have fl1 := HA1.rl.frozen 0
  have fw1 := HA1.rw.frozen 0
  have HB := hide HA1
  have ll : (l == 0) = false := beq_eq_false_iff_ne.2 hl
  have lw : (s == who) = false := beq_eq_false_iff_ne.2 hw
  clear HA F HA1 hw
  go_enter Try.func48, Try.ntmps48
  go_wp2_with fail
  go_ret
  exact TakePost.mk Hr.out rfl HB.out HU1.out

set_option maxHeartbeats 800000 in
set_option maxRecDepth 100000 in
theorem take_ge_lt_Ble (pe pm po pl pw : Nat) (M o e who l s t : Int) (w : World) (F : Five pe pm po pl pw) (HA : AtVars w pe pm po pl pw M o ⟨e, who, l⟩) (hM0 : 1 ≤ M) (hM1 : M ≤ 9223372036854775807) (he0 : 0 ≤ e) (he1 : e < M) (_ho0 : 0 ≤ o) (ho1 : o < M)
    (ht0 : 1 ≤ t) (ht1 : t ≤ 9223372036854775807) (hl0 : 0 ≤ l) (hl1 : l ≤ e) (hs0 : -9223372036854775808 ≤ s) (hs1 : s ≤ 9223372036854775807) (hmn : M - e < t) (hmx : s < -1) (_hc : o < e + (M - e)) (hl : l = 0) (hf : e < o) :
    Calls Try.prog 48 #[.int .i64 s, .int .i64 t, .pointer (some ⟨pe, 0, none⟩), .pointer (some ⟨pm, 0, none⟩), .pointer (some ⟨po, 0, none⟩), .pointer (some ⟨pl, 0, none⟩), .pointer (some ⟨pw, 0, none⟩)] w (TakePost pe pm po pl pw M o ⟨e, who, l⟩ s t w) := by
  have Hr := hide (show takeL M o ⟨e, who, l⟩ s t = (⟨e + (M - e), -1, e + (M - e) - o⟩, decide (e + (M - e) < M)) from by
    have q1 : e + min t (M - e) = e + (M - e) := by omega
    have q2 : max s (-1) = -1 := by omega
    simp only [takeL, q1, q2]
    rw [if_neg (by omega), if_pos hl, show max e o = o by omega])
  have ce := HA.re.cell (o := 0) rfl
  have cm := HA.rm.cell (o := 0) rfl
  have co := HA.ro.cell (o := 0) rfl
  have fe := HA.re.frozen 0
  have G := hide F
  have HA1 := HA.setE F (e + (M - e))
  have HU1 := hide (show Upd (fun b => b = pe ∨ b = pl ∨ b = pw) w (w.setCell ⟨pe, 0, none⟩ (.int .i64 (e + (M - e)))) from Upd.setCell _ _ _ (.inl rfl))
  have ce1 := HA1.re.cell (o := 0) rfl
  have cm1 := HA1.rm.cell (o := 0) rfl
  have co1 := HA1.ro.cell (o := 0) rfl
  have cl1 := HA1.rl.cell (o := 0) rfl
  have cw1 := HA1.rw.cell (o := 0) rfl
  have fl1 := HA1.rl.frozen 0
  have fw1 := HA1.rw.frozen 0
  have HB := hide HA1
  have ll : (l == 0) = true := beq_iff_eq.2 hl
  clear HA F HA1
  subst hl
  have HW2 := HB.out.setW G.out (-1)
  have ce2 := HW2.re.cell (o := 0) rfl
  have cm2 := HW2.rm.cell (o := 0) rfl
  have co2 := HW2.ro.cell (o := 0) rfl
  have cl2 := HW2.rl.cell (o := 0) rfl
  have fl2 := HW2.rl.frozen 0
  have HL3 := HW2.setL G.out (e + (M - e) - o)
  have ce3 := HL3.re.cell (o := 0) rfl
  have cm3 := HL3.rm.cell (o := 0) rfl
  have HC := hide (HL3.drew)
  clear HW2 HL3
  go_enter Try.func48, Try.ntmps48
  go_wp2_with fail
  go_region
  all_goals go_wp2_with fail
  go_ret
  exact TakePost.mk Hr.out rfl HC.out (((HU1.out.trans (Upd.setCell _ ⟨pw, 0, none⟩ (.int .i64 (-1)) (S := (· = pw)) rfl) (fun _ h => .inl (.inr (.inr h)))).trans (Upd.setCell _ ⟨pl, 0, none⟩ (.int .i64 (e + (M - e) - o)) (S := (· = pl)) rfl) (fun _ h => .inl (.inr (.inl h)))).trans (Upd.drew (S := fun _ => False) _) (fun _ h => h.elim))

set_option maxHeartbeats 800000 in
set_option maxRecDepth 100000 in
theorem take_ge_lt_Bgt (pe pm po pl pw : Nat) (M o e who l s t : Int) (w : World) (F : Five pe pm po pl pw) (HA : AtVars w pe pm po pl pw M o ⟨e, who, l⟩) (hM0 : 1 ≤ M) (hM1 : M ≤ 9223372036854775807) (he0 : 0 ≤ e) (he1 : e < M) (_ho0 : 0 ≤ o) (ho1 : o < M)
    (ht0 : 1 ≤ t) (ht1 : t ≤ 9223372036854775807) (hl0 : 0 ≤ l) (hl1 : l ≤ e) (hs0 : -9223372036854775808 ≤ s) (hs1 : s ≤ 9223372036854775807) (hmn : M - e < t) (hmx : s < -1) (_hc : o < e + (M - e)) (hl : l = 0) (hf : o ≤ e) :
    Calls Try.prog 48 #[.int .i64 s, .int .i64 t, .pointer (some ⟨pe, 0, none⟩), .pointer (some ⟨pm, 0, none⟩), .pointer (some ⟨po, 0, none⟩), .pointer (some ⟨pl, 0, none⟩), .pointer (some ⟨pw, 0, none⟩)] w (TakePost pe pm po pl pw M o ⟨e, who, l⟩ s t w) := by
  have Hr := hide (show takeL M o ⟨e, who, l⟩ s t = (⟨e + (M - e), -1, e + (M - e) - e⟩, decide (e + (M - e) < M)) from by
    have q1 : e + min t (M - e) = e + (M - e) := by omega
    have q2 : max s (-1) = -1 := by omega
    simp only [takeL, q1, q2]
    rw [if_neg (by omega), if_pos hl, show max e o = e by omega])
  have ce := HA.re.cell (o := 0) rfl
  have cm := HA.rm.cell (o := 0) rfl
  have co := HA.ro.cell (o := 0) rfl
  have fe := HA.re.frozen 0
  have G := hide F
  have HA1 := HA.setE F (e + (M - e))
  have HU1 := hide (show Upd (fun b => b = pe ∨ b = pl ∨ b = pw) w (w.setCell ⟨pe, 0, none⟩ (.int .i64 (e + (M - e)))) from Upd.setCell _ _ _ (.inl rfl))
  have ce1 := HA1.re.cell (o := 0) rfl
  have cm1 := HA1.rm.cell (o := 0) rfl
  have co1 := HA1.ro.cell (o := 0) rfl
  have cl1 := HA1.rl.cell (o := 0) rfl
  have cw1 := HA1.rw.cell (o := 0) rfl
  have fl1 := HA1.rl.frozen 0
  have fw1 := HA1.rw.frozen 0
  have HB := hide HA1
  have ll : (l == 0) = true := beq_iff_eq.2 hl
  clear HA F HA1
  subst hl
  have HW2 := HB.out.setW G.out (-1)
  have ce2 := HW2.re.cell (o := 0) rfl
  have cm2 := HW2.rm.cell (o := 0) rfl
  have co2 := HW2.ro.cell (o := 0) rfl
  have cl2 := HW2.rl.cell (o := 0) rfl
  have fl2 := HW2.rl.frozen 0
  have HL3 := HW2.setL G.out (e + (M - e) - e)
  have ce3 := HL3.re.cell (o := 0) rfl
  have cm3 := HL3.rm.cell (o := 0) rfl
  have HC := hide (HL3.drew)
  clear HW2 HL3
  go_enter Try.func48, Try.ntmps48
  go_wp2_with fail
  go_region
  all_goals go_wp2_with fail
  go_ret
  exact TakePost.mk Hr.out rfl HC.out (((HU1.out.trans (Upd.setCell _ ⟨pw, 0, none⟩ (.int .i64 (-1)) (S := (· = pw)) rfl) (fun _ h => .inl (.inr (.inr h)))).trans (Upd.setCell _ ⟨pl, 0, none⟩ (.int .i64 (e + (M - e) - e)) (S := (· = pl)) rfl) (fun _ h => .inl (.inr (.inl h)))).trans (Upd.drew (S := fun _ => False) _) (fun _ h => h.elim))

set_option maxHeartbeats 800000 in
set_option maxRecDepth 100000 in
theorem take_ge_lt_C (pe pm po pl pw : Nat) (M o e who l s t : Int) (w : World) (F : Five pe pm po pl pw) (HA : AtVars w pe pm po pl pw M o ⟨e, who, l⟩) (hM0 : 1 ≤ M) (hM1 : M ≤ 9223372036854775807) (he0 : 0 ≤ e) (he1 : e < M) (_ho0 : 0 ≤ o) (ho1 : o < M)
    (ht0 : 1 ≤ t) (ht1 : t ≤ 9223372036854775807) (hl0 : 0 ≤ l) (hl1 : l ≤ e) (hs0 : -9223372036854775808 ≤ s) (hs1 : s ≤ 9223372036854775807) (hmn : M - e < t) (hmx : s < -1) (_hc : o < e + (M - e)) (hl : l ≠ 0) (hw : -1 = who) :
    Calls Try.prog 48 #[.int .i64 s, .int .i64 t, .pointer (some ⟨pe, 0, none⟩), .pointer (some ⟨pm, 0, none⟩), .pointer (some ⟨po, 0, none⟩), .pointer (some ⟨pl, 0, none⟩), .pointer (some ⟨pw, 0, none⟩)] w (TakePost pe pm po pl pw M o ⟨e, who, l⟩ s t w) := by
  have Hr := hide (show takeL M o ⟨e, who, l⟩ s t = (⟨e + (M - e), who, l + (e + (M - e) - e)⟩, decide (e + (M - e) < M)) from by
    have q1 : e + min t (M - e) = e + (M - e) := by omega
    have q2 : max s (-1) = -1 := by omega
    simp only [takeL, q1, q2]
    rw [if_neg (by omega), if_neg hl, if_pos hw])
  have ce := HA.re.cell (o := 0) rfl
  have cm := HA.rm.cell (o := 0) rfl
  have co := HA.ro.cell (o := 0) rfl
  have fe := HA.re.frozen 0
  have G := hide F
  have HA1 := HA.setE F (e + (M - e))
  have HU1 := hide (show Upd (fun b => b = pe ∨ b = pl ∨ b = pw) w (w.setCell ⟨pe, 0, none⟩ (.int .i64 (e + (M - e)))) from Upd.setCell _ _ _ (.inl rfl))
  have ce1 := HA1.re.cell (o := 0) rfl
  have cm1 := HA1.rm.cell (o := 0) rfl
  have co1 := HA1.ro.cell (o := 0) rfl
  have cl1 := HA1.rl.cell (o := 0) rfl
  have cw1 := HA1.rw.cell (o := 0) rfl
  have fl1 := HA1.rl.frozen 0
  have fw1 := HA1.rw.frozen 0
  have HB := hide HA1
  have ll : (l == 0) = false := beq_eq_false_iff_ne.2 hl
  have lw : (-1 == who) = true := beq_iff_eq.2 hw
  have HL2 := HB.out.setL G.out (l + (e + (M - e) - e))
  have ce2 := HL2.re.cell (o := 0) rfl
  have cm2 := HL2.rm.cell (o := 0) rfl
  clear HL2
  clear HA F HA1 hw
  go_enter Try.func48, Try.ntmps48
  go_wp2_with fail
  go_ret
  exact TakePost.mk Hr.out rfl (HB.out.setL G.out _) (HU1.out.trans (Upd.setCell _ _ _ (S := (· = pl)) rfl) (fun _ h => .inl (.inr (.inl h))))

set_option maxHeartbeats 800000 in
set_option maxRecDepth 100000 in
theorem take_ge_lt_D (pe pm po pl pw : Nat) (M o e who l s t : Int) (w : World) (F : Five pe pm po pl pw) (HA : AtVars w pe pm po pl pw M o ⟨e, who, l⟩) (hM0 : 1 ≤ M) (hM1 : M ≤ 9223372036854775807) (he0 : 0 ≤ e) (he1 : e < M) (_ho0 : 0 ≤ o) (ho1 : o < M)
    (ht0 : 1 ≤ t) (ht1 : t ≤ 9223372036854775807) (_hl0 : 0 ≤ l) (_hl1 : l ≤ e) (hs0 : -9223372036854775808 ≤ s) (hs1 : s ≤ 9223372036854775807) (hmn : M - e < t) (hmx : s < -1) (_hc : o < e + (M - e)) (hl : l ≠ 0) (hw : -1 ≠ who) :
    Calls Try.prog 48 #[.int .i64 s, .int .i64 t, .pointer (some ⟨pe, 0, none⟩), .pointer (some ⟨pm, 0, none⟩), .pointer (some ⟨po, 0, none⟩), .pointer (some ⟨pl, 0, none⟩), .pointer (some ⟨pw, 0, none⟩)] w (TakePost pe pm po pl pw M o ⟨e, who, l⟩ s t w) := by
  have Hr := hide (show takeL M o ⟨e, who, l⟩ s t = (⟨e + (M - e), who, l⟩, false) from by
    have q1 : e + min t (M - e) = e + (M - e) := by omega
    have q2 : max s (-1) = -1 := by omega
    simp only [takeL, q1, q2]
    rw [if_neg (by omega), if_neg hl, if_neg hw])
  have ce := HA.re.cell (o := 0) rfl
  have cm := HA.rm.cell (o := 0) rfl
  have co := HA.ro.cell (o := 0) rfl
  have fe := HA.re.frozen 0
  have G := hide F
  have HA1 := HA.setE F (e + (M - e))
  have HU1 := hide (show Upd (fun b => b = pe ∨ b = pl ∨ b = pw) w (w.setCell ⟨pe, 0, none⟩ (.int .i64 (e + (M - e)))) from Upd.setCell _ _ _ (.inl rfl))
  have ce1 := HA1.re.cell (o := 0) rfl
  have cm1 := HA1.rm.cell (o := 0) rfl
  have co1 := HA1.ro.cell (o := 0) rfl
  have cl1 := HA1.rl.cell (o := 0) rfl
  have cw1 := HA1.rw.cell (o := 0) rfl
  have fl1 := HA1.rl.frozen 0
  have fw1 := HA1.rw.frozen 0
  have HB := hide HA1
  have ll : (l == 0) = false := beq_eq_false_iff_ne.2 hl
  have lw : (-1 == who) = false := beq_eq_false_iff_ne.2 hw
  clear HA F HA1 hw
  go_enter Try.func48, Try.ntmps48
  go_wp2_with fail
  go_ret
  exact TakePost.mk Hr.out rfl HB.out HU1.out

set_option maxHeartbeats 800000 in
theorem take_any (pe pm po pl pw : Nat) (M o e who l s t : Int) (w : World) (F : Five pe pm po pl pw) (HA : AtVars w pe pm po pl pw M o ⟨e, who, l⟩) (hM0 : 1 ≤ M) (hM1 : M ≤ 9223372036854775807) (he0 : 0 ≤ e) (he1 : e < M) (ho0 : 0 ≤ o) (ho1 : o < M)
    (ht0 : 1 ≤ t) (ht1 : t ≤ 9223372036854775807) (hl0 : 0 ≤ l) (hl1 : l ≤ e) (hs0 : -9223372036854775808 ≤ s) (hs1 : s ≤ 9223372036854775807) :
    Calls Try.prog 48 #[.int .i64 s, .int .i64 t, .pointer (some ⟨pe, 0, none⟩), .pointer (some ⟨pm, 0, none⟩), .pointer (some ⟨po, 0, none⟩), .pointer (some ⟨pl, 0, none⟩), .pointer (some ⟨pw, 0, none⟩)] w (TakePost pe pm po pl pw M o ⟨e, who, l⟩ s t w) := by
  rcases Int.lt_or_le (M - e) t with hmn | hmn
  rotate_left
  · rcases Int.lt_or_le s (-1) with hmx | hmx
    rotate_left
    · rcases Int.lt_or_le o (e + t) with hc | hc
      rotate_left
      · exact take_lt_ge_A pe pm po pl pw M o e who l s t w F HA hM0 hM1 he0 he1 ho0 ho1 ht0 ht1 hl0 hl1 hs0 hs1 hmn hmx hc
      · by_cases hl : l = 0
        · rcases Int.lt_or_le e o with hf | hf
          · exact take_lt_ge_Ble pe pm po pl pw M o e who l s t w F HA hM0 hM1 he0 he1 ho0 ho1 ht0 ht1 hl0 hl1 hs0 hs1 hmn hmx hc hl hf
          · exact take_lt_ge_Bgt pe pm po pl pw M o e who l s t w F HA hM0 hM1 he0 he1 ho0 ho1 ht0 ht1 hl0 hl1 hs0 hs1 hmn hmx hc hl hf
        · by_cases hw : s = who
          · exact take_lt_ge_C pe pm po pl pw M o e who l s t w F HA hM0 hM1 he0 he1 ho0 ho1 ht0 ht1 hl0 hl1 hs0 hs1 hmn hmx hc hl hw
          · exact take_lt_ge_D pe pm po pl pw M o e who l s t w F HA hM0 hM1 he0 he1 ho0 ho1 ht0 ht1 hl0 hl1 hs0 hs1 hmn hmx hc hl hw
    · rcases Int.lt_or_le o (e + t) with hc | hc
      rotate_left
      · exact take_lt_lt_A pe pm po pl pw M o e who l s t w F HA hM0 hM1 he0 he1 ho0 ho1 ht0 ht1 hl0 hl1 hs0 hs1 hmn hmx hc
      · by_cases hl : l = 0
        · rcases Int.lt_or_le e o with hf | hf
          · exact take_lt_lt_Ble pe pm po pl pw M o e who l s t w F HA hM0 hM1 he0 he1 ho0 ho1 ht0 ht1 hl0 hl1 hs0 hs1 hmn hmx hc hl hf
          · exact take_lt_lt_Bgt pe pm po pl pw M o e who l s t w F HA hM0 hM1 he0 he1 ho0 ho1 ht0 ht1 hl0 hl1 hs0 hs1 hmn hmx hc hl hf
        · by_cases hw : -1 = who
          · exact take_lt_lt_C pe pm po pl pw M o e who l s t w F HA hM0 hM1 he0 he1 ho0 ho1 ht0 ht1 hl0 hl1 hs0 hs1 hmn hmx hc hl hw
          · exact take_lt_lt_D pe pm po pl pw M o e who l s t w F HA hM0 hM1 he0 he1 ho0 ho1 ht0 ht1 hl0 hl1 hs0 hs1 hmn hmx hc hl hw
  · rcases Int.lt_or_le s (-1) with hmx | hmx
    rotate_left
    · rcases Int.lt_or_le o (e + (M - e)) with hc | hc
      rotate_left
      · omega
      · by_cases hl : l = 0
        · rcases Int.lt_or_le e o with hf | hf
          · exact take_ge_ge_Ble pe pm po pl pw M o e who l s t w F HA hM0 hM1 he0 he1 ho0 ho1 ht0 ht1 hl0 hl1 hs0 hs1 hmn hmx hc hl hf
          · exact take_ge_ge_Bgt pe pm po pl pw M o e who l s t w F HA hM0 hM1 he0 he1 ho0 ho1 ht0 ht1 hl0 hl1 hs0 hs1 hmn hmx hc hl hf
        · by_cases hw : s = who
          · exact take_ge_ge_C pe pm po pl pw M o e who l s t w F HA hM0 hM1 he0 he1 ho0 ho1 ht0 ht1 hl0 hl1 hs0 hs1 hmn hmx hc hl hw
          · exact take_ge_ge_D pe pm po pl pw M o e who l s t w F HA hM0 hM1 he0 he1 ho0 ho1 ht0 ht1 hl0 hl1 hs0 hs1 hmn hmx hc hl hw
    · rcases Int.lt_or_le o (e + (M - e)) with hc | hc
      rotate_left
      · omega
      · by_cases hl : l = 0
        · rcases Int.lt_or_le e o with hf | hf
          · exact take_ge_lt_Ble pe pm po pl pw M o e who l s t w F HA hM0 hM1 he0 he1 ho0 ho1 ht0 ht1 hl0 hl1 hs0 hs1 hmn hmx hc hl hf
          · exact take_ge_lt_Bgt pe pm po pl pw M o e who l s t w F HA hM0 hM1 he0 he1 ho0 ho1 ht0 ht1 hl0 hl1 hs0 hs1 hmn hmx hc hl hf
        · by_cases hw : -1 = who
          · exact take_ge_lt_C pe pm po pl pw M o e who l s t w F HA hM0 hM1 he0 he1 ho0 ho1 ht0 ht1 hl0 hl1 hs0 hs1 hmn hmx hc hl hw
          · exact take_ge_lt_D pe pm po pl pw M o e who l s t w F HA hM0 hM1 he0 he1 ho0 ho1 ht0 ht1 hl0 hl1 hs0 hs1 hmn hmx hc hl hw
end LA
end Go.Proofs.Ytenfikfgliljmaa
