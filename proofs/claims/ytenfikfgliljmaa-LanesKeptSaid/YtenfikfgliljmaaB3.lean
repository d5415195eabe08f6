import Derived.Test.YtenfikfgliljmaaB1
import Derived.Test.YtenfikfgliljmaaMB
import Derived.Deep.Cut
import Derived.Deep.DeepCutAuto
import Derived.StillTailTactics
namespace Go.Proofs.Ytenfikfgliljmaa
open Go.RowKit
namespace LA

/-- A slice of slots that a call hands back: nil, or a row of its own. -/
def SVal (w : World) (base : Nat) (v : Value) (ys : List Slot) : Prop :=
  (v = .slice none 0 0 ∧ ys = []) ∨ ∃ g cap cur, v = .slice (some ⟨g, 0, none⟩) ys.length cap ∧ base ≤ g ∧ SRow w g ys cap cur ∧ 0 < ys.length
/-- What earliest leaves. -/
def EarlPost {xs : List Need} {major : Int} (D : Edf xs major) (w : World) (e : Ending) (w' : World) : Prop :=
  ∃ st v, D.G st ∧ major ≤ st.now ∧ e = .returned v ∧ SVal w' w.heap.size v st.row ∧ Below w.heap.size w w'
/-- The world in which earliest begins its work. -/
abbrev W0of (w : World) : World := (((((w.alloc (.cells #[.slice none 0 0] 74)).alloc (.cells #[] 96)).alloc (.cells #[.slice (some ⟨w.heap.size + 1, 0, none⟩) 0 0] 93)).alloc (.cells #[] 96)).alloc (.cells #[.slice (some ⟨w.heap.size + 1 + 1 + 1, 0, none⟩) 0 0] 93))
theorem ES_init (w : World) : ES w (W0of w) w.heap.size (w.heap.size + 1 + 1) (w.heap.size + 1 + 1 + 1 + 1) [] none [] (w.heap.size + 1) 0 #[] (initNext 0) (w.heap.size + 1 + 1 + 1) 0 #[] := by
  have r0 := Row.alloc_new w #[.slice none 0 0] 74
  have r1 := Row.alloc_new (w.alloc (.cells #[.slice none 0 0] 74)) #[] 96
  have r2 := Row.alloc_new ((w.alloc (.cells #[.slice none 0 0] 74)).alloc (.cells #[] 96)) #[.slice (some ⟨w.heap.size + 1, 0, none⟩) 0 0] 93
  have r3 := Row.alloc_new (((w.alloc (.cells #[.slice none 0 0] 74)).alloc (.cells #[] 96)).alloc (.cells #[.slice (some ⟨w.heap.size + 1, 0, none⟩) 0 0] 93)) #[] 96
  have r4 := Row.alloc_new ((((w.alloc (.cells #[.slice none 0 0] 74)).alloc (.cells #[] 96)).alloc (.cells #[.slice (some ⟨w.heap.size + 1, 0, none⟩) 0 0] 93)).alloc (.cells #[] 96)) #[.slice (some ⟨w.heap.size + 1 + 1 + 1, 0, none⟩) 0 0] 93
  simp only [World.size_alloc] at r1 r2 r3 r4
  have jc : JC #[] [] := ⟨by simp, fun i h => by simp at h⟩
  constructor
  · exact ((((((Below.refl _ w).alloc (Nat.le_refl _) _).alloc (by simp only [World.size_alloc]; omega) _).alloc (by simp only [World.size_alloc]; omega) _).alloc (by simp only [World.size_alloc]; omega) _).alloc (by simp only [World.size_alloc]; omega) _)
  · exact ⟨rfl, (((r0.alloc _).alloc _).alloc _).alloc _⟩
  · exact ⟨(r2.alloc _).alloc _, ((r1.alloc _).alloc _).alloc _, by omega, by simp, by unfold maxLen; omega, rfl, jc⟩
  · exact ⟨r4, r3.alloc _, by omega, by simp [initNext], by unfold maxLen; omega, rfl, jc⟩
  all_goals first | omega | (intro g hg; cases hg)

set_option maxHeartbeats 8000000 in
set_option maxRecDepth 100000 in
theorem earliest_any (A : Option Addr) (cap0 : Nat) (xs : List Need) (major : Int) (D : Edf xs major) (w : World) (hm0 : 0 ≤ major) (hm1 : major ≤ 65536) (hx : xs.length ≤ 65536) (hr : RunsAt w A xs)
    (hper : ∀ x, x ∈ xs → 1 ≤ x.budget ∧ x.budget ≤ 65536 ∧ 1 ≤ x.period ∧ x.period ≤ 65536) :
    Calls Try.prog 37 #[.int .i64 major, .slice A xs.length cap0] w (EarlPost D w) := by
  have HR := hide hr
  have HP := hide hper
  clear hr hper
  go_enter Try.func37, Try.ntmps37
  go_wp2_with fail
  have HE0 := hide (ES_init w)
  unfold W0of at HE0
  generalize (((((w.alloc (.cells #[.slice none 0 0] 74)).alloc (.cells #[] 96)).alloc (.cells #[.slice (some ⟨w.heap.size + 1, 0, none⟩) 0 0] 93)).alloc (.cells #[] 96)).alloc (.cells #[.slice (some ⟨w.heap.size + 1 + 1 + 1, 0, none⟩) 0 0] 93)) = W0 at HE0 ⊢
  generalize w.heap.size + 1 + 1 + 1 + 1 = pn at HE0 ⊢
  generalize w.heap.size + 1 + 1 + 1 = gn0 at HE0 ⊢
  generalize w.heap.size + 1 + 1 = pa at HE0 ⊢
  generalize w.heap.size + 1 = ga at HE0 ⊢
  generalize hpw : w.heap.size = pw at HE0 ⊢
  go_loopw [21] (fun v wr => ∃ (k gn cn : Nat) (cun : Array Value), v = .int .i64 k ∧ k ≤ xs.length ∧ Hid (ES w wr pw pa pn [] none [] ga 0 #[] (initNext k) gn cn cun)) (fun v _ => xs.length - (intOf v).toNat)
  case atStart => exact ⟨0, gn0, 0, #[], rfl, Nat.zero_le _, HE0⟩
  case round =>
    obtain ⟨k, gn, cn, cun, rfl, hk, HE⟩ := hrel
    by_cases hlt : k < xs.length
    · have Hp := hide (hpush_any pn gn (initNext k) cn cun ⟨(k : Int), 0, 0⟩ wr (by rw [initNext_length]; omega) HE.out.jn)
      go_wp2_with fail
      refine Hp.out.mono ?_
      rintro e w1 ⟨rfl, gn1, cn1, cun1, J1, U1, F1⟩
      rw [initNext_length, upL_init] at J1
      have HE1 := hide (HE.out.next_turn J1 U1 F1)
      clear J1 U1 F1
      go_wp2_with fail
      go_roundw
      case rel => exact ⟨k + 1, gn1, cn1, cun1, by go_num, by omega, HE1⟩
      case measure => simp [intOf]; omega
    · obtain rfl : k = xs.length := by omega
      go_wp2_with fail
      go_loopw [9] (fun v wr => ∃ (st : St) (o : Option Nat) (ga ca gn cn : Nat) (cua cun : Array Value), v = .int .i64 st.now ∧ Hid (D.G st) ∧ Hid (ES w wr pw pa pn st.row o st.wait ga ca cua st.next gn cn cun)) (fun v _ => (major - intOf v).toNat)
      case atStart => exact ⟨⟨0, [], [], initNext xs.length⟩, none, ga, 0, gn, cn, #[], cun, rfl, hide D.init, HE⟩
      case round =>
        clear HE
        obtain ⟨st0, o0, ga0, ca0, gn0, cn0, cua0, cun0, rfl, HG, HE⟩ := hrel
        by_cases hlt : st0.now < major
        · have HGI := hide (D.enter st0 HG.out hlt)
          generalize hnow : st0.now = now at *
          go_wp2_with fail
          go_loopg [34] (D.μ st0) (fun gk v w2 => ∃ (st : St) (o : Option Nat) (ga ca gn cn : Nat) (cua cun : Array Value), Hid (gk = D.μ st) ∧ Hid (st.now = now) ∧ Hid (D.GI st) ∧ Hid (ES w w2 pw pa pn st.row o st.wait ga ca cua st.next gn cn cun))
          case atStart => exact ⟨st0, o0, ga0, ca0, gn0, cn0, cua0, cun0, hide rfl, hide hnow, HGI, HE⟩
          case round =>
            clear HE HGI
            obtain ⟨st, o1, ga1, ca1, gn1, cn1, cua1, cun1, HK, HN, HGI, HE⟩ := hrel
            have hcn := HE.out.jn.cellp
            cases hx : st.next[0]? with
            | none =>
              have hnx : st.next = [] := List.getElem?_eq_none_iff.1 hx |> fun h => List.length_eq_zero_iff.1 (Nat.le_zero.1 h)
              have hB := D.bd st HGI.out
              have hwl := hB.wl
              have hn0 : 0 ≤ now := by have := hB.t0; rw [HN.out] at this; exact this
              have hout := D.outer st HGI.out (fun x h => by rw [hx] at h; cases h)
              have hun : untilOf major st = major := by unfold untilOf; rw [hx]
              rw [hnx] at hcn
              have HB := hide hB
              have Hout := hide hout
              have Hun := hide hun
              clear hB hout hun hx hnx
              simp only [List.length_nil] at hcn
              go_wp2_with fail
              refine (len_any _ _ _ _).mono ?_
              rintro e w3 ⟨rfl, rfl⟩
              go_wp2_with fail
              refine (len_any _ _ _ _).mono ?_
              rintro e w3 ⟨rfl, rfl⟩
              have hca := HE.out.jw.cellp
              go_wp2_with fail
              refine (len_any _ _ _ _).mono ?_
              rintro e w3 ⟨rfl, rfl⟩
              cases hz : st.wait[0]? with
              | none =>
                have hwx : st.wait = [] := List.getElem?_eq_none_iff.1 hz |> fun h => List.length_eq_zero_iff.1 (Nat.le_zero.1 h)
                rw [hwx]
                simp only [List.length_nil]
                have hst : outerSt xs major st = ⟨major, runL st.row ⟨#[]⟩ (major - now), st.wait, st.next⟩ := by
                  unfold outerSt; rw [hz, Hun.out, HN.out]
                have hout := Hout.out
                rw [hst, HN.out] at hout
                have hG := hide hout.1
                have hlt2 : now < major := hout.2
                have Hr := hide (run_any pw o1 st.row ⟨#[]⟩ (major - now) wr HE.out.row (by have := HB.out.rl; omega) (by omega) (by omega) (by rw [HB.out.re, HN.out]; omega) (by rw [HB.out.re, HN.out]; omega))
                have Hwx := hide hwx
                clear hout hst hz hwx
                go_wp2_with fail
                refine Hr.out.mono ?_
                rintro e w4 ⟨rfl, o2, W2, U2, F2⟩
                have HE2 := hide (HE.out.row_run W2 U2 F2)
                clear W2 U2 F2
                go_wp2_with fail
                go_roundw
                case rel => exact ⟨_, o2, ga1, ca1, gn1, cn1, cua1, cun1, rfl, hG, HE2⟩
                case measure => simp [intOf]; omega
              | some z =>
                have hwl2 : 0 < st.wait.length := (List.getElem?_eq_some_iff.1 hz).1
                obtain ⟨z1, z2, z3, z4, z5, z6⟩ := HB.out.wj z (List.mem_of_getElem? hz)
                have z0 := HB.out.wpos z hz
                obtain ⟨y, hy⟩ : ∃ y, xs[z.need.toNat]? = some y := ⟨xs[z.need.toNat]'(by omega), List.getElem?_eq_getElem (by omega)⟩
                have hyi : z.need.toNat < xs.length := by omega
                have hye : xs[z.need.toNat] = y := (List.getElem?_eq_some_iff.1 hy).2
                obtain ⟨b, off, hA, n0, n1, n2, n3⟩ := HR.out _ hyi
                subst hA
                rw [hye] at n1
                have hbl := HE.out.below
                replace n1 := (hbl.cell (World.block_lt_of_cell? w _ n1)).trans n1
                obtain ⟨c0, c1, c2⟩ := HE.out.jw.cells hz
                simp only [Nat.zero_mul, Nat.zero_add] at c0 c1 c2
                have hy2 : xs.getD z.need.toNat .zero = y := by rw [List.getD, hy]; rfl
                have Hz := hide hz
                have HA1 := hide (show ∀ t, t = min z.left (major - now) → outerSt xs major st = ⟨now + t, runL st.row y.subj t, if z.left - t = 0 then (popL (st.wait.set 0 ⟨z.need, z.due, z.left - t⟩)).dropLast else st.wait.set 0 ⟨z.need, z.due, z.left - t⟩, st.next⟩ from by
                  intro t ht; unfold outerSt; rw [hz, Hun.out, HN.out, ht]; simp only [hy2])
                have lga : ga1 < wr.heap.size := HE.out.jw.2.1.lt
                clear hz hye hy hy2 n0 n2 n3 hbl hyi
                by_cases hmin : z.left ≤ major - now
                · have hst := HA1.out z.left (Int.min_eq_left hmin).symm
                  simp only [Int.sub_self, if_true] at hst
                  have hout := Hout.out
                  rw [hst, HN.out] at hout
                  have hG := hide hout.1
                  have Hr := hide (run_any pw o1 st.row y.subj z.left wr HE.out.row (by have := HB.out.rl; omega) (by omega) (by omega) (by rw [HB.out.re, HN.out]; omega) (by rw [HB.out.re, HN.out]; omega))
                  clear hst hout HA1
                  go_wp2_with fail
                  refine Hr.out.mono ?_
                  rintro e w4 ⟨rfl, o2, W2, U2, F2⟩
                  have HE2 := hide (HE.out.row_run W2 U2 F2)
                  clear W2 U2 F2 c0 c1 c2 n1 hca hcn Hr lga
                  obtain ⟨_, _, c2⟩ := HE2.out.jw.cells Hz.out
                  simp only [Nat.zero_mul, Nat.zero_add] at c2
                  have fz := HE2.out.jw.2.1.frozen 2
                  obtain ⟨cua5, J5⟩ := HE2.out.jw.setLeft Hz.out 0
                  simp only [Nat.zero_mul, Nat.zero_add] at J5
                  have HE5 := hide (HE2.out.wait_turn J5 (Upd.setCell _ _ _ (.inr rfl)) (.inl rfl))
                  have Hp := hide (hpop_any pa ga1 _ ca1 cua5 (w4.setCell ⟨ga1, 2, none⟩ (.int .i64 0)) (by rw [List.length_set]; omega) (by rw [List.length_set]; omega) J5)
                  clear J5
                  go_wp2_with fail
                  refine Hp.out.mono ?_
                  rintro e w6 ⟨rfl, cua6, J6, U6⟩
                  have HE6 := hide (HE5.out.wait_turn J6 U6 (.inl rfl))
                  clear J6 U6 HE5 HE2 Hp fz c2
                  go_wp2_with fail
                  go_roundw
                  case rel => exact ⟨_, o2, ga1, ca1, gn1, cn1, cua6, cun1, rfl, hG, HE6⟩
                  case measure => simp [intOf]; omega
                · have hst := HA1.out (major - now) (Int.min_eq_right (by omega)).symm
                  rw [if_neg (by omega)] at hst
                  have hout := Hout.out
                  rw [hst, HN.out] at hout
                  have hG := hide hout.1
                  have hlt2 : now < now + (major - now) := hout.2
                  have Hr := hide (run_any pw o1 st.row y.subj (major - now) wr HE.out.row (by have := HB.out.rl; omega) (by omega) (by omega) (by rw [HB.out.re, HN.out]; omega) (by rw [HB.out.re, HN.out]; omega))
                  clear hst hout HA1
                  go_wp2_with fail
                  refine Hr.out.mono ?_
                  rintro e w4 ⟨rfl, o2, W2, U2, F2⟩
                  have HE2 := hide (HE.out.row_run W2 U2 F2)
                  clear W2 U2 F2 c0 c1 c2 n1 hca hcn Hr lga
                  obtain ⟨_, _, c2⟩ := HE2.out.jw.cells Hz.out
                  simp only [Nat.zero_mul, Nat.zero_add] at c2
                  have fz := HE2.out.jw.2.1.frozen 2
                  obtain ⟨cua5, J5⟩ := HE2.out.jw.setLeft Hz.out (z.left - (major - now))
                  simp only [Nat.zero_mul, Nat.zero_add] at J5
                  have HE5 := hide (HE2.out.wait_turn J5 (Upd.setCell _ _ _ (.inr rfl)) (.inl rfl))
                  have hnz : (z.left - (major - now) == 0) = false := by rw [beq_eq_false_iff_ne]; omega
                  clear J5
                  go_wp2_with fail
                  go_roundw
                  case rel => exact ⟨_, o2, ga1, ca1, gn1, cn1, cua5, cun1, rfl, hG, HE5⟩
                  case measure => simp [intOf]; omega
            | some x =>
              have hB := D.bd st HGI.out
              have hnl : 0 < st.next.length := (List.getElem?_eq_some_iff.1 hx).1
              have hnl2 := hB.nl
              have hwl := hB.wl
              have hn0 : 0 ≤ now := by have := hB.t0; rw [HN.out] at this; exact this
              have hj := hB.nj x (List.mem_of_getElem? hx)
              obtain ⟨j1, j2, j3, j4, j5, j6⟩ := hj
              obtain ⟨c0, c1, c2⟩ := HE.out.jn.cells hx
              simp only [Nat.zero_mul, Nat.zero_add] at c0 c1 c2
              have Hx := hide hx
              clear hx hB
              generalize hln : st.next.length = ln at *
              have Hln := hide hln
              clear hln
              by_cases hd : x.due = now
              · obtain ⟨y, hy⟩ : ∃ y, xs[x.need.toNat]? = some y := ⟨xs[x.need.toNat]'(by omega), List.getElem?_eq_getElem (by omega)⟩
                have hyi : x.need.toNat < xs.length := by omega
                have hye : xs[x.need.toNat] = y := (List.getElem?_eq_some_iff.1 hy).2
                obtain ⟨b, off, hA, n0, n1, n2, n3⟩ := HR.out _ hyi
                subst hA
                rw [hye] at n0 n1 n2 n3
                obtain ⟨p1, p2, p3, p4⟩ := HP.out y (hye ▸ List.getElem_mem hyi)
                have hbl := HE.out.below
                replace n2 := (hbl.cell (World.block_lt_of_cell? w _ n2)).trans n2
                replace n3 := (hbl.cell (World.block_lt_of_cell? w _ n3)).trans n3
                have lb : b < wr.heap.size := World.block_lt_of_cell? wr _ n2
                have lpn : pn < wr.heap.size := HE.out.jn.1.lt
                have lgn : gn1 < wr.heap.size := HE.out.jn.2.1.lt
                have lpa : pa < wr.heap.size := HE.out.jw.1.lt
                have Hy := hide hy
                have Hd := hide hd
                clear n0 n1 hye hy hbl hd
                go_wp2_with fail
                refine (len_any _ _ _ _).mono ?_
                rintro e w3 ⟨rfl, rfl⟩
                have hd2 : (x.due == now) = true := beq_iff_eq.2 Hd.out
                have Hp : Hid (∀ W, Upd (fun _ => False) wr W → Calls Try.prog 54 #[.iface 91 (.pointer (some ⟨pa, 0, none⟩)), .iface 96 (.agg #[.int .i64 x.need, .int .i64 (now + y.period), .int .i64 y.budget])] W (PushPost pa ga1 (upL (st.wait ++ [⟨x.need, now + y.period, y.budget⟩]) st.wait.length) W)) :=
                  hide (fun W hu => hpush_any pa ga1 st.wait ca1 cua1 ⟨x.need, now + y.period, y.budget⟩ W (by omega) (HE.out.jw.upd0 hu (fun h => h) (fun h => h)))
                go_wp2_with fail
                refine wp_region_still_tail 16 (by kernel_rfl) (by kernel_rfl) ?_
                simp only [List.take_succ_cons, List.take_zero, List.drop_succ_cons, List.drop_zero]
                change wpStill _ _ (World.drew (wr.alloc _)) _ _ _
                repeat still_step
                refine wpStill_nil ?_
                change wpList _ _ _ _ _ (World.drew (wr.alloc _))
                have hu3 : Hid (Upd (fun _ => False) wr (World.drew (wr.alloc (.cells #[.int .i64 x.need, .int .i64 x.due, .int .i64 x.left] 96)))) := hide ((Upd.alloc _ _).trans (Upd.drew (S := fun _ => False) _) (fun _ h => .inl h))
                generalize World.drew (wr.alloc (.cells #[.int .i64 x.need, .int .i64 x.due, .int .i64 x.left] 96)) = w3 at hu3 ⊢
                go_wp2_with fail
                refine (Hp.out _ hu3.out).mono ?_
                rintro e w4 ⟨rfl, ga2, ca2, cua2, J2, U2, F2⟩
                have HE4 := hide ((HE.out.idle hu3.out).wait_turn J2 U2 F2)
                clear c0 c1 c2 hcn J2 U2 F2 Hp hu3 n2 n3 lb lpn lgn lpa hd2
                have hcn4 := HE4.out.jn.cellp
                rw [Hln.out] at hcn4
                obtain ⟨_, c1, _⟩ := HE4.out.jn.cells Hx.out
                simp only [Nat.zero_mul, Nat.zero_add] at c1
                have fz := HE4.out.jn.2.1.frozen 1
                obtain ⟨cun5, J5⟩ := HE4.out.jn.setDue Hx.out (x.due + y.period)
                simp only [Nat.zero_mul, Nat.zero_add] at J5
                have HE5 := hide (HE4.out.next_turn J5 (Upd.setCell _ _ _ (.inr rfl)) (.inl rfl))
                have Hf := hide (hfix_any pn gn1 _ cn1 cun5 (w4.setCell ⟨gn1, 1, none⟩ (.int .i64 (x.due + y.period))) (by simp; rw [Hln.out]; omega) (by simp; rw [Hln.out]; omega) J5)
                clear J5
                go_wp2_with fail
                refine Hf.out.mono ?_
                rintro e w6 ⟨rfl, cun6, J6, U6⟩
                have HE6 := hide (HE5.out.next_turn J6 (U6.mono (fun b h _ => .inr h)) (.inl rfl))
                clear J6 U6 HE5 HE4 Hf fz c1 hcn4
                go_wp2_with fail
                have hin := D.inner st x HGI.out Hx.out (Hd.out.trans HN.out.symm)
                have hy2 : xs.getD x.need.toNat .zero = y := by rw [List.getD, Hy.out]; rfl
                have hst : innerSt xs st x = ⟨now, st.row, upL (st.wait ++ [⟨x.need, now + y.period, y.budget⟩]) st.wait.length, (downL (st.next.set 0 ⟨x.need, x.due + y.period, x.left⟩) 0 (st.next.set 0 ⟨x.need, x.due + y.period, x.left⟩).length).1⟩ := by
                  unfold innerSt; rw [hy2, HN.out, List.length_set]
                rw [hst] at hin
                have H1 := hide hin.1
                have H2 := hide hin.2
                clear hin hst hy2
                go_roundg (D.μ ⟨now, st.row, upL (st.wait ++ [⟨x.need, now + y.period, y.budget⟩]) st.wait.length, (downL (st.next.set 0 ⟨x.need, x.due + y.period, x.left⟩) 0 (st.next.set 0 ⟨x.need, x.due + y.period, x.left⟩).length).1⟩)
                case measure => rw [HK.out]; exact H2.out
                case rel => exact ⟨_, o1, ga2, ca2, gn1, cn1, cua2, cun6, hide rfl, hide rfl, H1, HE6⟩
              · have hB := D.bd st HGI.out
                have hout := D.outer st HGI.out (fun x' h => by rw [Hx.out] at h; cases h; rw [HN.out]; exact hd)
                have HB := hide hB
                have Hout := hide hout
                have hd2 : (x.due == now) = false := beq_eq_false_iff_ne.2 hd
                clear hB hout c0 c2 hd
                go_wp2_with fail
                refine (len_any _ _ _ _).mono ?_
                rintro e w3 ⟨rfl, rfl⟩
                go_wp2_with fail
                refine (len_any _ _ _ _).mono ?_
                rintro e w3 ⟨rfl, rfl⟩
                have hca := HE.out.jw.cellp
                by_cases hmu : major ≤ x.due
                · have Hun := hide (show untilOf major st = major from by unfold untilOf; rw [Hx.out]; exact Int.min_eq_left hmu)
                  go_wp2_with fail
                  refine (len_any _ _ _ _).mono ?_
                  rintro e w3 ⟨rfl, rfl⟩
                  cases hz : st.wait[0]? with
                  | none =>
                    have hwx : st.wait = [] := List.getElem?_eq_none_iff.1 hz |> fun h => List.length_eq_zero_iff.1 (Nat.le_zero.1 h)
                    rw [hwx]
                    simp only [List.length_nil]
                    have hst : outerSt xs major st = ⟨major, runL st.row ⟨#[]⟩ (major - now), st.wait, st.next⟩ := by
                      unfold outerSt; rw [hz, Hun.out, HN.out]
                    have hout := Hout.out
                    rw [hst, HN.out] at hout
                    have hG := hide hout.1
                    have hlt2 : now < major := hout.2
                    have Hr := hide (run_any pw o1 st.row ⟨#[]⟩ (major - now) wr HE.out.row (by have := HB.out.rl; omega) (by omega) (by omega) (by rw [HB.out.re, HN.out]; omega) (by rw [HB.out.re, HN.out]; omega))
                    have Hwx := hide hwx
                    clear hout hst hz hwx
                    go_wp2_with fail
                    refine Hr.out.mono ?_
                    rintro e w4 ⟨rfl, o2, W2, U2, F2⟩
                    have HE2 := hide (HE.out.row_run W2 U2 F2)
                    clear W2 U2 F2
                    go_wp2_with fail
                    go_roundw
                    case rel => exact ⟨_, o2, ga1, ca1, gn1, cn1, cua1, cun1, rfl, hG, HE2⟩
                    case measure => simp [intOf]; omega
                  | some z =>
                    have hwl2 : 0 < st.wait.length := (List.getElem?_eq_some_iff.1 hz).1
                    obtain ⟨z1, z2, z3, z4, z5, z6⟩ := HB.out.wj z (List.mem_of_getElem? hz)
                    have z0 := HB.out.wpos z hz
                    obtain ⟨y, hy⟩ : ∃ y, xs[z.need.toNat]? = some y := ⟨xs[z.need.toNat]'(by omega), List.getElem?_eq_getElem (by omega)⟩
                    have hyi : z.need.toNat < xs.length := by omega
                    have hye : xs[z.need.toNat] = y := (List.getElem?_eq_some_iff.1 hy).2
                    obtain ⟨b, off, hA, n0, n1, n2, n3⟩ := HR.out _ hyi
                    subst hA
                    rw [hye] at n1
                    have hbl := HE.out.below
                    replace n1 := (hbl.cell (World.block_lt_of_cell? w _ n1)).trans n1
                    obtain ⟨c0, c1, c2⟩ := HE.out.jw.cells hz
                    simp only [Nat.zero_mul, Nat.zero_add] at c0 c1 c2
                    have hy2 : xs.getD z.need.toNat .zero = y := by rw [List.getD, hy]; rfl
                    have Hz := hide hz
                    have HA1 := hide (show ∀ t, t = min z.left (major - now) → outerSt xs major st = ⟨now + t, runL st.row y.subj t, if z.left - t = 0 then (popL (st.wait.set 0 ⟨z.need, z.due, z.left - t⟩)).dropLast else st.wait.set 0 ⟨z.need, z.due, z.left - t⟩, st.next⟩ from by
                      intro t ht; unfold outerSt; rw [hz, Hun.out, HN.out, ht]; simp only [hy2])
                    have lga : ga1 < wr.heap.size := HE.out.jw.2.1.lt
                    clear hz hye hy hy2 n0 n2 n3 hbl hyi
                    by_cases hmin : z.left ≤ major - now
                    · have hst := HA1.out z.left (Int.min_eq_left hmin).symm
                      simp only [Int.sub_self, if_true] at hst
                      have hout := Hout.out
                      rw [hst, HN.out] at hout
                      have hG := hide hout.1
                      have Hr := hide (run_any pw o1 st.row y.subj z.left wr HE.out.row (by have := HB.out.rl; omega) (by omega) (by omega) (by rw [HB.out.re, HN.out]; omega) (by rw [HB.out.re, HN.out]; omega))
                      clear hst hout HA1
                      go_wp2_with fail
                      refine Hr.out.mono ?_
                      rintro e w4 ⟨rfl, o2, W2, U2, F2⟩
                      have HE2 := hide (HE.out.row_run W2 U2 F2)
                      clear W2 U2 F2 c0 c1 c2 n1 hca hcn Hr lga
                      obtain ⟨_, _, c2⟩ := HE2.out.jw.cells Hz.out
                      simp only [Nat.zero_mul, Nat.zero_add] at c2
                      have fz := HE2.out.jw.2.1.frozen 2
                      obtain ⟨cua5, J5⟩ := HE2.out.jw.setLeft Hz.out 0
                      simp only [Nat.zero_mul, Nat.zero_add] at J5
                      have HE5 := hide (HE2.out.wait_turn J5 (Upd.setCell _ _ _ (.inr rfl)) (.inl rfl))
                      have Hp := hide (hpop_any pa ga1 _ ca1 cua5 (w4.setCell ⟨ga1, 2, none⟩ (.int .i64 0)) (by rw [List.length_set]; omega) (by rw [List.length_set]; omega) J5)
                      clear J5
                      go_wp2_with fail
                      refine Hp.out.mono ?_
                      rintro e w6 ⟨rfl, cua6, J6, U6⟩
                      have HE6 := hide (HE5.out.wait_turn J6 U6 (.inl rfl))
                      clear J6 U6 HE5 HE2 Hp fz c2
                      go_wp2_with fail
                      go_roundw
                      case rel => exact ⟨_, o2, ga1, ca1, gn1, cn1, cua6, cun1, rfl, hG, HE6⟩
                      case measure => simp [intOf]; omega
                    · have hst := HA1.out (major - now) (Int.min_eq_right (by omega)).symm
                      rw [if_neg (by omega)] at hst
                      have hout := Hout.out
                      rw [hst, HN.out] at hout
                      have hG := hide hout.1
                      have hlt2 : now < now + (major - now) := hout.2
                      have Hr := hide (run_any pw o1 st.row y.subj (major - now) wr HE.out.row (by have := HB.out.rl; omega) (by omega) (by omega) (by rw [HB.out.re, HN.out]; omega) (by rw [HB.out.re, HN.out]; omega))
                      clear hst hout HA1
                      go_wp2_with fail
                      refine Hr.out.mono ?_
                      rintro e w4 ⟨rfl, o2, W2, U2, F2⟩
                      have HE2 := hide (HE.out.row_run W2 U2 F2)
                      clear W2 U2 F2 c0 c1 c2 n1 hca hcn Hr lga
                      obtain ⟨_, _, c2⟩ := HE2.out.jw.cells Hz.out
                      simp only [Nat.zero_mul, Nat.zero_add] at c2
                      have fz := HE2.out.jw.2.1.frozen 2
                      obtain ⟨cua5, J5⟩ := HE2.out.jw.setLeft Hz.out (z.left - (major - now))
                      simp only [Nat.zero_mul, Nat.zero_add] at J5
                      have HE5 := hide (HE2.out.wait_turn J5 (Upd.setCell _ _ _ (.inr rfl)) (.inl rfl))
                      have hnz : (z.left - (major - now) == 0) = false := by rw [beq_eq_false_iff_ne]; omega
                      clear J5
                      go_wp2_with fail
                      go_roundw
                      case rel => exact ⟨_, o2, ga1, ca1, gn1, cn1, cua5, cun1, rfl, hG, HE5⟩
                      case measure => simp [intOf]; omega
                · have Hun := hide (show untilOf major st = x.due from by unfold untilOf; rw [Hx.out]; exact Int.min_eq_right (by omega))
                  go_wp2_with fail
                  refine (len_any _ _ _ _).mono ?_
                  rintro e w3 ⟨rfl, rfl⟩
                  cases hz : st.wait[0]? with
                  | none =>
                    have hwx : st.wait = [] := List.getElem?_eq_none_iff.1 hz |> fun h => List.length_eq_zero_iff.1 (Nat.le_zero.1 h)
                    rw [hwx]
                    simp only [List.length_nil]
                    have hst : outerSt xs major st = ⟨x.due, runL st.row ⟨#[]⟩ (x.due - now), st.wait, st.next⟩ := by
                      unfold outerSt; rw [hz, Hun.out, HN.out]
                    have hout := Hout.out
                    rw [hst, HN.out] at hout
                    have hG := hide hout.1
                    have hlt2 : now < x.due := hout.2
                    have Hr := hide (run_any pw o1 st.row ⟨#[]⟩ (x.due - now) wr HE.out.row (by have := HB.out.rl; omega) (by omega) (by omega) (by rw [HB.out.re, HN.out]; omega) (by rw [HB.out.re, HN.out]; omega))
                    have Hwx := hide hwx
                    clear hout hst hz hwx
                    go_wp2_with fail
                    refine Hr.out.mono ?_
                    rintro e w4 ⟨rfl, o2, W2, U2, F2⟩
                    have HE2 := hide (HE.out.row_run W2 U2 F2)
                    clear W2 U2 F2
                    go_wp2_with fail
                    go_roundw
                    case rel => exact ⟨_, o2, ga1, ca1, gn1, cn1, cua1, cun1, rfl, hG, HE2⟩
                    case measure => simp [intOf]; omega
                  | some z =>
                    have hwl2 : 0 < st.wait.length := (List.getElem?_eq_some_iff.1 hz).1
                    obtain ⟨z1, z2, z3, z4, z5, z6⟩ := HB.out.wj z (List.mem_of_getElem? hz)
                    have z0 := HB.out.wpos z hz
                    obtain ⟨y, hy⟩ : ∃ y, xs[z.need.toNat]? = some y := ⟨xs[z.need.toNat]'(by omega), List.getElem?_eq_getElem (by omega)⟩
                    have hyi : z.need.toNat < xs.length := by omega
                    have hye : xs[z.need.toNat] = y := (List.getElem?_eq_some_iff.1 hy).2
                    obtain ⟨b, off, hA, n0, n1, n2, n3⟩ := HR.out _ hyi
                    subst hA
                    rw [hye] at n1
                    have hbl := HE.out.below
                    replace n1 := (hbl.cell (World.block_lt_of_cell? w _ n1)).trans n1
                    obtain ⟨c0, c1, c2⟩ := HE.out.jw.cells hz
                    simp only [Nat.zero_mul, Nat.zero_add] at c0 c1 c2
                    have hy2 : xs.getD z.need.toNat .zero = y := by rw [List.getD, hy]; rfl
                    have Hz := hide hz
                    have HA1 := hide (show ∀ t, t = min z.left (x.due - now) → outerSt xs major st = ⟨now + t, runL st.row y.subj t, if z.left - t = 0 then (popL (st.wait.set 0 ⟨z.need, z.due, z.left - t⟩)).dropLast else st.wait.set 0 ⟨z.need, z.due, z.left - t⟩, st.next⟩ from by
                      intro t ht; unfold outerSt; rw [hz, Hun.out, HN.out, ht]; simp only [hy2])
                    have lga : ga1 < wr.heap.size := HE.out.jw.2.1.lt
                    clear hz hye hy hy2 n0 n2 n3 hbl hyi
                    by_cases hmin : z.left ≤ x.due - now
                    · have hst := HA1.out z.left (Int.min_eq_left hmin).symm
                      simp only [Int.sub_self, if_true] at hst
                      have hout := Hout.out
                      rw [hst, HN.out] at hout
                      have hG := hide hout.1
                      have Hr := hide (run_any pw o1 st.row y.subj z.left wr HE.out.row (by have := HB.out.rl; omega) (by omega) (by omega) (by rw [HB.out.re, HN.out]; omega) (by rw [HB.out.re, HN.out]; omega))
                      clear hst hout HA1
                      go_wp2_with fail
                      refine Hr.out.mono ?_
                      rintro e w4 ⟨rfl, o2, W2, U2, F2⟩
                      have HE2 := hide (HE.out.row_run W2 U2 F2)
                      clear W2 U2 F2 c0 c1 c2 n1 hca hcn Hr lga
                      obtain ⟨_, _, c2⟩ := HE2.out.jw.cells Hz.out
                      simp only [Nat.zero_mul, Nat.zero_add] at c2
                      have fz := HE2.out.jw.2.1.frozen 2
                      obtain ⟨cua5, J5⟩ := HE2.out.jw.setLeft Hz.out 0
                      simp only [Nat.zero_mul, Nat.zero_add] at J5
                      have HE5 := hide (HE2.out.wait_turn J5 (Upd.setCell _ _ _ (.inr rfl)) (.inl rfl))
                      have Hp := hide (hpop_any pa ga1 _ ca1 cua5 (w4.setCell ⟨ga1, 2, none⟩ (.int .i64 0)) (by rw [List.length_set]; omega) (by rw [List.length_set]; omega) J5)
                      clear J5
                      go_wp2_with fail
                      refine Hp.out.mono ?_
                      rintro e w6 ⟨rfl, cua6, J6, U6⟩
                      have HE6 := hide (HE5.out.wait_turn J6 U6 (.inl rfl))
                      clear J6 U6 HE5 HE2 Hp fz c2
                      go_wp2_with fail
                      go_roundw
                      case rel => exact ⟨_, o2, ga1, ca1, gn1, cn1, cua6, cun1, rfl, hG, HE6⟩
                      case measure => simp [intOf]; omega
                    · have hst := HA1.out (x.due - now) (Int.min_eq_right (by omega)).symm
                      rw [if_neg (by omega)] at hst
                      have hout := Hout.out
                      rw [hst, HN.out] at hout
                      have hG := hide hout.1
                      have hlt2 : now < now + (x.due - now) := hout.2
                      have Hr := hide (run_any pw o1 st.row y.subj (x.due - now) wr HE.out.row (by have := HB.out.rl; omega) (by omega) (by omega) (by rw [HB.out.re, HN.out]; omega) (by rw [HB.out.re, HN.out]; omega))
                      clear hst hout HA1
                      go_wp2_with fail
                      refine Hr.out.mono ?_
                      rintro e w4 ⟨rfl, o2, W2, U2, F2⟩
                      have HE2 := hide (HE.out.row_run W2 U2 F2)
                      clear W2 U2 F2 c0 c1 c2 n1 hca hcn Hr lga
                      obtain ⟨_, _, c2⟩ := HE2.out.jw.cells Hz.out
                      simp only [Nat.zero_mul, Nat.zero_add] at c2
                      have fz := HE2.out.jw.2.1.frozen 2
                      obtain ⟨cua5, J5⟩ := HE2.out.jw.setLeft Hz.out (z.left - (x.due - now))
                      simp only [Nat.zero_mul, Nat.zero_add] at J5
                      have HE5 := hide (HE2.out.wait_turn J5 (Upd.setCell _ _ _ (.inr rfl)) (.inl rfl))
                      have hnz : (z.left - (x.due - now) == 0) = false := by rw [beq_eq_false_iff_ne]; omega
                      clear J5
                      go_wp2_with fail
                      go_roundw
                      case rel => exact ⟨_, o2, ga1, ca1, gn1, cn1, cua5, cun1, rfl, hG, HE5⟩
                      case measure => simp [intOf]; omega
        · cases o0 with
          | none =>
            have hc := HE.out.row.2.cell (o := 0) rfl
            go_wp2_with fail
            go_ret
            exact ⟨st0, _, HG.out, by omega, rfl, .inl ⟨rfl, HE.out.row.1⟩, HE.out.below⟩
          | some g =>
            obtain ⟨h0, cap, cur, r1, r2, r3⟩ := HE.out.row
            have hc := r1.cell (o := 0) rfl
            have H1 := hide r2
            have H2 := hide (HE.out.bo g rfl).1
            clear r1 r2 r3
            go_wp2_with fail
            go_ret
            exact ⟨st0, _, HG.out, by omega, rfl, .inr ⟨g, cap, cur, rfl, H2.out, H1.out, h0⟩, HE.out.below⟩
end LA
end Go.Proofs.Ytenfikfgliljmaa
