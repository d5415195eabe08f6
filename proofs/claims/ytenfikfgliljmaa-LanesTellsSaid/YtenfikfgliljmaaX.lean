/- lanes.earliest keeps to the earliest deadline first: time goes on. -/
import Derived.Test.YtenfikfgliljmaaV
namespace Go.Proofs.Ytenfikfgliljmaa.LA
open Go.Proofs.Ytenfikfgliljmaa.LT

theorem next_mult {P : Nat → Nat} {i t u : Nat} (hp : 0 < P i) (h : t < u) (hm : u % P i = 0) : LT.due P i t ≤ u := by
  unfold LT.due
  have h1 := Nat.div_add_mod u (P i)
  rw [hm, Nat.add_zero, Nat.mul_comm] at h1
  have h2 : t / P i < u / P i := by
    rw [Nat.div_lt_iff_lt_mul hp, h1]; exact h
  calc (t / P i + 1) * P i ≤ u / P i * P i := Nat.mul_le_mul_right _ h2
    _ = u := h1

theorem due_steady {P : Nat → Nat} {i t : Nat} (hp : 0 < P i) : ∀ m, (∀ u, t < u → u ≤ t + m → u % P i ≠ 0) → LT.due P i (t + m) = LT.due P i t
  | 0, _ => rfl
  | m + 1, h => by
    rw [show t + (m + 1) = (t + m) + 1 by omega, due_same hp (h _ (by omega) (by omega)), due_steady hp m fun u h1 h2 => h u h1 (by omega)]

section
variable {xs : List Need} {M : Nat}

/-- All is released, and nothing is released till U. -/
structure Quiet (xs : List Need) (t U : Nat) (st : St) : Prop where
  lt : t < U
  all : ∀ y, y ∈ st.next → ∃ i, i < xs.length ∧ y.need = (i : Int) ∧ y.due = (duex xs i t : Int)
  far : ∀ i, i < xs.length → U ≤ duex xs i t

theorem Quiet.rel {t U : Nat} {st : St} (F : Fit xs M) (Q : Quiet xs t U st) : ∀ i, i < xs.length → ∀ u, t < u → u < U → u % Pf xs i ≠ 0 := fun i hi u h1 h2 hm => by
  have := next_mult (F.fair.p i hi) h1 hm
  have := Q.far i hi
  unfold duex at this
  omega

/-- The state at a later tick of a quiet stretch. -/
theorem core_move (F : Fit xs M) {t U t' : Nat} {st : St} (C : Core xs t st) (Q : Quiet xs t U st) (ht : t < t') (hU : t' ≤ U) (hM : t' ≤ M) (wait' : List Job) (row' : List Slot)
    (hrow : row' = rowOf (whoF xs) t') (hw : Heap wait' wait'.length) (wn : (wait'.map (·.need)).Nodup)
    (hx : ∀ x, x ∈ wait' → ∃ i, i < xs.length ∧ x.need = (i : Int) ∧ x.due = (duex xs i t : Int) ∧ x.left = (pre (Pf xs) (Bf xs) xs.length t' i : Int) ∧ 0 < pre (Pf xs) (Bf xs) xs.length t' i)
    (hall : ∀ i, i < xs.length → 0 < pre (Pf xs) (Bf xs) xs.length t' i → ∃ x, x ∈ wait' ∧ x.need = (i : Int)) :
    Core xs t' ⟨(t' : Int), row', wait', st.next⟩ := by
  have same : ∀ i, i < xs.length → t' % Pf xs i ≠ 0 → duex xs i t' = duex xs i t := by
    intro i hi hm
    have := due_steady (P := Pf xs) (i := i) (t := t) (F.fair.p i hi) (t' - t) (fun u h1 h2 => by
      by_cases e : u = t'
      · rw [e]; exact hm
      · exact Q.rel F i hi u h1 (by omega))
    rw [show t + (t' - t) = t' by omega] at this
    exact this
  have at0 : ∀ i, i < xs.length → t' % Pf xs i = 0 → duex xs i t = t' := by
    intro i hi hm
    have h1 := next_mult (F.fair.p i hi) ht hm
    have h2 := Q.far i hi
    unfold duex at h2 ⊢
    omega
  have miss : ∀ i, i < xs.length → t' % Pf xs i = 0 → pre (Pf xs) (Bf xs) xs.length t' i = 0 := by
    intro i hi hm
    obtain ⟨s, rfl⟩ : ∃ s, t' = s + 1 := ⟨t' - 1, by omega⟩
    exact no_miss F.fair s (by omega) i hi hm
  have uniq : ∀ y, y ∈ st.next → ∀ i, i < xs.length → y.need = (i : Int) → y.due = (duex xs i t : Int) := by
    intro y hy i hi e
    obtain ⟨j, hj, e1, e2⟩ := Q.all y hy
    have : j = i := by omega
    rw [← this]; exact e2
  refine ⟨rfl, hrow, hw, C.hn, wn, C.nn, fun x hx' => ?_, C.nall, fun x hx' => ?_, fun i hi hl hd => ?_⟩
  · obtain ⟨i, hi, e1, e2, _⟩ := C.nx x hx'
    refine ⟨i, hi, e1, e2, ?_⟩
    have h3 := uniq x hx' i hi e1
    by_cases hm : t' % Pf xs i = 0
    · exact .inl ⟨by rw [h3, at0 i hi hm], hm⟩
    · exact .inr (by rw [h3, same i hi hm])
  · obtain ⟨i, hi, e1, e2, e3, e4⟩ := hx x hx'
    have hm : t' % Pf xs i ≠ 0 := fun hm => by have := miss i hi hm; omega
    have hlf : lfx xs t' i = pre (Pf xs) (Bf xs) xs.length t' i := by unfold lfx; rw [lf_eq, if_neg hm]
    refine ⟨i, hi, e1, by rw [same i hi hm]; exact e2, by rw [hlf]; exact e3, by rw [hlf]; exact e4, fun y hy e => ?_⟩
    rw [same i hi hm]; exact uniq y hy i hi e
  · have hm : t' % Pf xs i ≠ 0 := fun hm => by
      obtain ⟨y, hy, e⟩ := C.nall i hi
      have h1 := hd y hy e
      rw [uniq y hy i hi e, at0 i hi hm] at h1
      have := lt_due (P := Pf xs) (i := i) (t := t') (F.fair.p i hi)
      unfold duex at h1
      omega
    have hlf : lfx xs t' i = pre (Pf xs) (Bf xs) xs.length t' i := by unfold lfx; rw [lf_eq, if_neg hm]
    exact hall i hi (by omega)

theorem heap_left (z : Job) (r : List Job) (l : Int) (h : Heap (z :: r) (r.length + 1)) : Heap (⟨z.need, z.due, l⟩ :: r) (r.length + 1) := by
  have e : ∀ i, (at' (⟨z.need, z.due, l⟩ :: r) i).due = (at' (z :: r) i).due ∧ (at' (⟨z.need, z.due, l⟩ :: r) i).need = (at' (z :: r) i).need := fun i => by
    cases i with
    | zero => exact ⟨rfl, rfl⟩
    | succ i => exact ⟨rfl, rfl⟩
  intro i h1 h2
  have := h i h1 h2
  rw [leJ_iff] at this ⊢
  rw [(e i).1, (e i).2, (e _).1, (e _).2]
  exact this

theorem core_outer (F : Fit xs M) {t : Nat} {st : St} (C : Core xs t st) (ht : t < M) (hne : ∀ x, st.next[0]? = some x → x.due ≠ st.now) :
    ∃ t', t < t' ∧ t' ≤ M ∧ Core xs t' (outerSt xs M st) := by
  -- the stretch
  obtain ⟨U, hUn, hUM, Q⟩ : ∃ U : Nat, untilOf M st = (U : Int) ∧ U ≤ M ∧ Quiet xs t U st := by
    cases hx : st.next[0]? with
    | none =>
      have hnil : st.next = [] := List.length_eq_zero_iff.1 (Nat.le_zero.1 (List.getElem?_eq_none_iff.1 hx))
      have hn0 : ∀ i, ¬ i < xs.length := fun i hi => by obtain ⟨y, hy, _⟩ := C.nall i hi; rw [hnil] at hy; cases hy
      exact ⟨M, by unfold untilOf; rw [hx], Nat.le_refl _, ht, (fun y hy => by rw [hnil] at hy; cases hy), fun i hi => absurd hi (hn0 i)⟩
    | some x =>
      obtain ⟨r, hr⟩ := cons_of_get hx
      have hd := hne x hx
      rw [C.now] at hd
      have hxm : x ∈ st.next := by rw [hr]; exact List.mem_cons_self
      obtain ⟨i, hi, e1, e2, e3⟩ := C.nx x hxm
      have e4 : x.due = (duex xs i t : Int) := by rcases e3 with h | h; exact absurd h.1 hd; exact h
      have hlt := lt_due (P := Pf xs) (i := i) (t := t) (F.fair.p i hi)
      have root : ∀ y, y ∈ st.next → x.due ≤ y.due := by
        intro y hy
        obtain ⟨k, hk, rfl⟩ := List.mem_iff_getElem.1 hy
        have := C.hn.root k hk
        rw [at_getElem _ k hk, show at' st.next 0 = x by rw [hr]; rfl, leJ_iff] at this
        omega
      have hall : ∀ y, y ∈ st.next → ∃ i, i < xs.length ∧ y.need = (i : Int) ∧ y.due = (duex xs i t : Int) := by
        intro y hy
        obtain ⟨j, hj, f1, f2, f3⟩ := C.nx y hy
        refine ⟨j, hj, f1, ?_⟩
        rcases f3 with h | h
        · have := root y hy; unfold duex at e4; omega
        · exact h
      refine ⟨min M (duex xs i t), ?_, Nat.min_le_left _ _, ⟨by unfold duex; omega, hall, fun j hj => ?_⟩⟩
      · unfold untilOf; rw [hx]; simp only [e4]; omega
      · obtain ⟨y, hy, ey⟩ := C.nall j hj
        obtain ⟨j', hj', f1, f2⟩ := hall y hy
        have := root y hy
        have : j' = j := by omega
        subst this
        omega
  have hrel := Q.rel F
  cases hz : st.wait[0]? with
  | none =>
    have hnil : st.wait = [] := List.length_eq_zero_iff.1 (Nat.le_zero.1 (List.getElem?_eq_none_iff.1 hz))
    have hl0 : ∀ i, i < xs.length → lfx xs t i = 0 := fun i hi => by
      rcases Nat.eq_zero_or_pos (lfx xs t i) with h | h
      · exact h
      · obtain ⟨x, hx, _⟩ := C.wall i hi h (fun y hy e => by obtain ⟨j, hj, f1, f2⟩ := Q.all y hy; have : j = i := by omega
                                                             rw [← this]; exact f2)
        rw [hnil] at hx; cases hx
    obtain ⟨s1, s2⟩ := steady (P := Pf xs) (B := Bf xs) (n := xs.length) (w := none) (t := t) (U := U) (fun i hi => F.fair.p i hi) hrel (U - t) (by have := Q.lt; omega) (fun m _ => best_eq_none fun i hi => by have := hl0 i hi; unfold lfx at this; simp [this])
    have hUt := Q.lt
    refine ⟨U, hUt, hUM, ?_⟩
    have hst : outerSt xs M st = ⟨(U : Int), runL st.row ⟨#[]⟩ ((U - t : Nat) : Int), [], st.next⟩ := by
      unfold outerSt; rw [hz, hUn, C.now, hnil]
      rw [show ((U - t : Nat) : Int) = (U : Int) - t by omega]
    rw [hst]
    refine core_move F C Q hUt (Nat.le_refl _) hUM [] _ ?_ (fun i _ h => absurd h (Nat.not_lt_zero i)) List.nodup_nil (fun x hx => by cases hx) (fun i hi hp => ?_)
    · have := rowOf_run (whoF xs) ⟨#[]⟩ t (U - t) (by omega) (fun u h1 h2 => by
        unfold whoF
        have := (s1 (u - t) (by omega)).1
        rw [show t + (u - t) = u by omega] at this
        rw [this])
      rw [show t + (U - t) = U by omega] at this
      rw [C.row, this]
    · have := s2 (by omega) i hi
      rw [show t + (U - t) = U by omega] at this
      have h0 := hl0 i hi
      unfold lfx at h0
      rw [this] at hp
      simp only [h0] at hp
      omega
  | some z =>
    obtain ⟨r, hr⟩ := cons_of_get hz
    have hzm : z ∈ st.wait := by rw [hr]; exact List.mem_cons_self
    obtain ⟨iz, hiz, z1, z2, z3, z4, z5⟩ := C.wx z hzm
    have hUt := Q.lt
    obtain ⟨k, hk⟩ : ∃ k, k = min (lfx xs t iz) (U - t) := ⟨_, rfl⟩
    have hk0 : 0 < k := by omega
    have hwait : ∀ i, i < xs.length → 0 < lfx xs t i → ∃ x, x ∈ st.wait ∧ x.need = (i : Int) := fun i hi h => C.wall i hi h (fun y hy e => by
      obtain ⟨j, hj, f1, f2⟩ := Q.all y hy
      have : j = i := by omega
      rw [← this]; exact f2)
    obtain ⟨s1, s2⟩ := steady (P := Pf xs) (B := Bf xs) (n := xs.length) (w := some iz) (t := t) (U := U) (fun i hi => F.fair.p i hi) hrel k (by omega) (fun m hm => by
      refine best_eq hiz ?_ (fun i hi hl => ?_)
      · simp only [if_true]; unfold lfx at hk; omega
      · have hl2 : 0 < lfx xs t i := by unfold lfx; split at hl <;> omega
        obtain ⟨x, hx, ex⟩ := hwait i hi hl2
        obtain ⟨j, hj, f1, f2, _⟩ := C.wx x hx
        have hji : j = i := by omega
        subst hji
        obtain ⟨q, hq, rfl⟩ := List.mem_iff_getElem.1 hx
        have := C.hw.root q hq
        rw [at_getElem _ q hq, show at' st.wait 0 = z by rw [hr]; rfl, leJ_iff] at this
        unfold duex at z2 f2
        omega)
    have hpre := s2 hk0
    have hst : outerSt xs M st = ⟨((t + k : Nat) : Int), runL st.row (xs.getD iz .zero).subj (k : Int), if z.left - (k : Int) = 0 then (popL (⟨z.need, z.due, z.left - (k : Int)⟩ :: r)).dropLast else ⟨z.need, z.due, z.left - (k : Int)⟩ :: r, st.next⟩ := by
      unfold outerSt
      rw [hz, hUn, C.now]
      have hmin : min z.left ((U : Int) - t) = (k : Int) := by omega
      have hni : z.need.toNat = iz := by omega
      simp only [hmin, hni, hr, List.set_cons_zero]
      rw [show ((t + k : Nat) : Int) = (t : Int) + k by omega]
    rw [hst]
    refine ⟨t + k, by omega, by omega, ?_⟩
    have hwn := C.wn
    rw [hr] at hwn
    simp only [List.map_cons, List.nodup_cons] at hwn
    have rneed : ∀ y, y ∈ r → y.need ≠ z.need := fun y hy e => hwn.1 (List.mem_map.2 ⟨y, hy, e⟩)
    have rin : ∀ y, y ∈ r → ∃ i, i < xs.length ∧ y.need = (i : Int) ∧ y.due = (duex xs i t : Int) ∧ y.left = (pre (Pf xs) (Bf xs) xs.length (t + k) i : Int) ∧ 0 < pre (Pf xs) (Bf xs) xs.length (t + k) i := fun y hy => by
      obtain ⟨i, hi, f1, f2, f3, f4, _⟩ := C.wx y (by rw [hr]; exact List.mem_cons_of_mem _ hy)
      have hne2 : ¬ (some iz : Option Nat) = some i := fun e => by cases e; exact rneed y hy (by omega)
      have h6 := hpre i hi
      rw [if_neg hne2, Nat.sub_zero] at h6
      unfold lfx at f3 f4
      exact ⟨i, hi, f1, f2, by rw [h6]; exact f3, by rw [h6]; exact f4⟩
    have hh : Heap (z :: r) (r.length + 1) := by have := C.hw; rw [hr] at this; exact this
    have hh2 := heap_left z r (z.left - (k : Int)) hh
    have hpz := hpre iz hiz
    rw [if_pos rfl] at hpz
    have hrow : runL st.row (xs.getD iz .zero).subj (k : Int) = rowOf (whoF xs) (t + k) := by
      rw [C.row]
      exact rowOf_run (whoF xs) _ t k hk0 (fun u h1 h2 => by
        unfold whoF
        have := (s1 (u - t) (by omega)).1
        rw [show t + (u - t) = u by omega] at this
        rw [this])
    by_cases h0 : z.left - (k : Int) = 0
    · rw [if_pos h0]
      obtain ⟨p1, p2⟩ := pop_heap (⟨z.need, z.due, z.left - (k : Int)⟩ : Job) r hh2
      refine core_move F C Q (by omega) (by omega) (by omega) _ _ hrow (by rw [p2.length_eq]; exact p1) (by rw [(p2.map _).nodup_iff]; exact hwn.2) (fun x hx => rin x (p2.mem_iff.1 hx)) (fun i hi hp => ?_)
      have hiz2 : i ≠ iz := fun e => by subst e; unfold lfx at z3; omega
      have h6 := hpre i hi
      rw [if_neg (fun e => hiz2 (by cases e; rfl)), Nat.sub_zero] at h6
      obtain ⟨x, hx, ex⟩ := hwait i hi (by unfold lfx; omega)
      rw [hr] at hx
      rcases List.mem_cons.1 hx with rfl | hx
      · exact absurd (by omega) hiz2
      · exact ⟨x, p2.mem_iff.2 hx, ex⟩
    · rw [if_neg h0]
      refine core_move F C Q (by omega) (by omega) (by omega) _ _ hrow (by simpa using hh2) ?_ (fun x hx => ?_) (fun i hi hp => ?_)
      · simp only [List.map_cons, List.nodup_cons]; exact hwn
      · rcases List.mem_cons.1 hx with rfl | hx
        · exact ⟨iz, hiz, z1, z2, by simp only; rw [hpz, z3]; have e9 : lfx xs t iz = LT.lf (Pf xs) (Bf xs) xs.length t iz := rfl; omega, by have e9 : lfx xs t iz = LT.lf (Pf xs) (Bf xs) xs.length t iz := rfl; omega⟩
        · exact rin x hx
      · by_cases e : i = iz
        · subst e
          exact ⟨_, List.mem_cons_self, z1⟩
        · have h6 := hpre i hi
          rw [if_neg (fun e' => e (by cases e'; rfl)), Nat.sub_zero] at h6
          obtain ⟨x, hx, ex⟩ := hwait i hi (by unfold lfx; omega)
          rw [hr] at hx
          rcases List.mem_cons.1 hx with rfl | hx
          · exact absurd (by omega) e
          · exact ⟨x, List.mem_cons_of_mem _ hx, ex⟩

/-- What the walk of lanes.earliest asks for. -/
def edf (F : Fit xs M) : Edf xs (M : Int) where
  G := fun st => ∃ t, t ≤ M ∧ Core xs t st
  GI := fun st => ∃ t, t < M ∧ Core xs t st
  μ := muS
  init := ⟨0, Nat.zero_le _, core_init F⟩
  enter := fun st ⟨t, _, C⟩ h => ⟨t, by have := C.now; omega, C⟩
  bd := fun st ⟨t, h, C⟩ => core_bd F C h
  inner := fun st x ⟨t, h, C⟩ hx hd => ⟨⟨t, h, (core_inner F C x hx hd).1⟩, (core_inner F C x hx hd).2⟩
  outer := fun st ⟨t, h, C⟩ hne => by
    obtain ⟨t', h1, h2, C'⟩ := core_outer F C h hne
    exact ⟨⟨t', h2, C'⟩, by rw [C'.now, C.now]; omega⟩

/-- The end: the whole frame's row. -/
theorem edf_end (F : Fit xs M) {st : St} (h : (edf F).G st) (hM : (M : Int) ≤ st.now) : st.row = rowOf (whoF xs) M := by
  obtain ⟨t, h1, C⟩ := h
  have := C.now
  have : t = M := by omega
  subst this
  exact C.row
end
end Go.Proofs.Ytenfikfgliljmaa.LA
