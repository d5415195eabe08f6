/- The law of LanesNeeds: what is done of each need, tick by tick, where the earliest deadline runs first; plain. -/
import Derived.Test.YtenfikfgliljmaaPB
import Derived.Test.YtenfikfgliljmaaPD
namespace Go.Proofs.Ytenfikfgliljmaa.LA
open Go.RowKit
open Go.Proofs.Ytenfikfgliljmaa.LT
section
variable (xs : List Need)
/-- What is done of the need's job as the tick t begins, before anything is released. -/
def dnP (t i : Nat) : Nat := if t = 0 then 0 else Bf xs i - pre (Pf xs) (Bf xs) xs.length t i
/-- .. where the needs up to i are looked at. -/
def dnI (t i j : Nat) : Nat := if j < i then Bf xs j - lf (Pf xs) (Bf xs) xs.length t j else dnP xs t j
variable {xs}
theorem dnP_full {M t i : Nat} (F : Fit xs M) (h0 : 0 < t) (hM : t ≤ M) (hi : i < xs.length) (hm : t % Pf xs i = 0) : dnP xs t i = Bf xs i := by
  have h := no_miss F.fair (t - 1) (by omega) i hi (by rw [show t - 1 + 1 = t by omega]; exact hm)
  rw [show t - 1 + 1 = t by omega] at h
  unfold dnP
  rw [if_neg (by omega), h]; rfl
theorem dnI_zero (t j : Nat) : dnI xs t 0 j = dnP xs t j := rfl
theorem dnI_set {t i : Nat} (hm : t % Pf xs i = 0) : dnI xs t (i + 1) i = 0 := by
  unfold dnI; rw [if_pos (by omega), lf_eq, if_pos hm]; omega
theorem dnI_other {t i j : Nat} (e : j ≠ i) : dnI xs t (i + 1) j = dnI xs t i j := by
  unfold dnI
  by_cases e2 : j < i
  · rw [if_pos (by omega), if_pos e2]
  · rw [if_neg (by omega), if_neg e2]
theorem dnI_keep {t i : Nat} (hm : t % Pf xs i ≠ 0) (j : Nat) : dnI xs t (i + 1) j = dnI xs t i j := by
  by_cases e : j = i
  · subst e
    unfold dnI dnP
    rw [if_pos (by omega), if_neg (by omega), lf_eq, if_neg hm, if_neg (fun e => hm (by rw [e]; simp))]
  · exact dnI_other e
theorem dnI_at (t i : Nat) : dnI xs t i i = dnP xs t i := by unfold dnI; rw [if_neg (by omega)]
theorem dnI_left {M t i : Nat} (F : Fit xs M) (hi : i < xs.length) : dnI xs t (i + 1) i < Bf xs i ↔ 0 < lf (Pf xs) (Bf xs) xs.length t i := by
  have h1 := lf_le (Pf xs) (Bf xs) xs.length i t
  have h2 := (F.ok i hi).1
  unfold dnI; rw [if_pos (by omega)]; omega
theorem dnP_le (t i : Nat) : dnP xs t i ≤ Bf xs i := by unfold dnP; split <;> omega
theorem dnI_le (t i j : Nat) : dnI xs t i j ≤ Bf xs j := by
  unfold dnI; split
  · omega
  · exact dnP_le t j
theorem bestA_none' {t i : Nat} (h : bestA xs t i = none) : bestA xs t (i + 1) = if 0 < lf (Pf xs) (Bf xs) xs.length t i then some i else none := by
  rw [bestA_succ_none xs h]; unfold lfA; rw [if_pos (Nat.lt_succ_self i)]
theorem bestA_some' {t i c : Nat} (h : bestA xs t i = some c) : bestA xs t (i + 1) = if 0 < lf (Pf xs) (Bf xs) xs.length t i ∧ LT.due (Pf xs) i t < LT.due (Pf xs) c t then some i else some c := by
  have hc := bestA_lt xs h
  rw [bestA_succ_some xs h]; unfold lfA dueA; rw [if_pos (Nat.lt_succ_self i), if_pos (Nat.lt_succ_self i), if_pos (Nat.lt_succ_of_lt hc)]
theorem dnP_next_some {t b : Nat} (h : bestA xs t xs.length = some b) (j : Nat) (hj : j < xs.length) : dnP xs (t + 1) j = if j = b then dnI xs t xs.length b + 1 else dnI xs t xs.length j := by
  have hb := best_some (show best _ _ xs.length = some b from h)
  have hw : who (Pf xs) (Bf xs) xs.length t = some b := h
  have hl := lf_le (Pf xs) (Bf xs) xs.length b t
  unfold dnP dnI
  rw [if_neg (by omega), if_pos hb.1, if_pos hj, pre, hw]
  by_cases e : j = b
  · subst e
    rw [if_pos rfl, if_pos rfl]
    have := hb.2.1
    omega
  · rw [if_neg e, if_neg (fun h => e (by cases h; rfl))]; rfl
theorem dnP_next_none {t : Nat} (h : bestA xs t xs.length = none) (j : Nat) (hj : j < xs.length) : dnP xs (t + 1) j = dnI xs t xs.length j := by
  have hw : who (Pf xs) (Bf xs) xs.length t = none := h
  unfold dnP dnI
  rw [if_neg (by omega), if_pos hj, pre, hw]; rfl
theorem whoF_some {t b : Nat} (h : bestA xs t xs.length = some b) : whoF xs t = (xs.getD b .zero).subj := by
  have hw : who (Pf xs) (Bf xs) xs.length t = some b := h
  unfold whoF; rw [hw]
theorem whoF_none {t : Nat} (h : bestA xs t xs.length = none) : whoF xs t = ⟨#[]⟩ := by
  have hw : who (Pf xs) (Bf xs) xs.length t = none := h
  unfold whoF; rw [hw]
end
theorem Ch_mem : ∀ {ys : List Slot} {p : Option ByteArray} {e : Int}, Ch p e ys → ∀ x, x ∈ ys → e ≤ x.lo ∧ x.lo < x.hi ∧ x.hi ≤ endFrom e ys
  | x :: r, p, e, h, y, hy => by
    obtain ⟨a, b, c, d⟩ := h
    have hle := endFrom_le d
    simp only [endFrom]
    rcases List.mem_cons.1 hy with rfl | hy
    · exact ⟨by omega, by omega, hle⟩
    · have := Ch_mem d y hy
      exact ⟨by omega, this.2.1, this.2.2⟩
/-- The slot of a tick bears the tick's name. -/
theorem slot_name {N : List ByteArray} {t k : Nat} (hk : k < (rowTk N).length) (hb : ∀ j (hj : j < k), (rowTk N)[j].hi ≤ t) (ht : (t : Int) < (rowTk N)[k].hi) (hN : t < N.length) : (rowTk N)[k].subj.toList = N[t].toList := by
  obtain ⟨h1, h2, h3⟩ := rowTk_facts N
  have hf := findAt_get hk hb ht
  have he := (find_expand (o := (t : Int)) h1 (by omega) (by omega)).1
  rw [hf] at he
  simp only [Int.sub_zero, Int.toNat_natCast] at he
  have h4 : ((expand (rowTk N)).map ByteArray.toList)[t]? = (N.map ByteArray.toList)[t]? := by rw [h2]
  rw [List.getElem?_map, List.getElem?_map, he, List.getElem?_eq_getElem hN] at h4
  simpa using h4
theorem slot_last {N : List ByteArray} {t : Nat} (hN : t < N.length) (hb : ∀ j (hj : j < (rowTk N).length), (rowTk N)[j].hi ≤ t) : False := by
  obtain ⟨h1, h2, h3⟩ := rowTk_facts N
  rcases list_cases (rowTk N) with e | ⟨zs, y, e⟩
  · rw [e] at h3; simp only [endFrom] at h3; omega
  · have hl : zs.length < (rowTk N).length := by rw [e]; simp
    have := hb zs.length hl
    rw [e, endFrom_snoc] at h3
    have h4 : (rowTk N)[zs.length] = y := by simp [e]
    rw [h4] at this
    omega
theorem fit_nums {M : Nat} {xs : List Need} (hm0 : 1 ≤ M) (hm1 : M ≤ 65536) (hl : xs.length ≤ 65536) (hok : ∀ x, x ∈ xs → NumsOk M x) (hs : sumW M true xs ≤ M) : Fit xs M := by
  have hn := nums_nat hok
  refine ⟨by omega, hm1, hl, fun i hi => ?_, hn, ?_⟩
  · have hm : xs.getD i .zero ∈ xs := by rw [show xs.getD i .zero = xs[i] by simp [List.getD, hi]]; exact List.getElem_mem hi
    obtain ⟨a, b, c, d⟩ := hok _ hm
    obtain ⟨e, f⟩ := hn i hi
    refine ⟨by omega, by omega, by omega, ?_⟩
    rw [e, ← Int.natCast_emod] at d
    omega
  · have := sumN_sumW M xs hn xs.length (Nat.le_refl _)
    rw [List.take_length] at this
    omega
theorem wants_le' {M : Nat} {x : Need} (h : NumsOk M x) : 0 ≤ wantsC (M : Int) x true ∧ wantsC (M : Int) x true ≤ M := by
  refine ⟨wants_nonneg h, ?_⟩
  obtain ⟨a, b, c, d⟩ := h
  unfold wantsC; rw [if_pos rfl]
  have h1 : x.period * ((M : Int) / x.period) = M := Int.mul_ediv_cancel' (Int.dvd_of_emod_eq_zero d)
  have h2 : 0 ≤ (M : Int) / x.period := Int.ediv_nonneg (by omega) (by omega)
  calc x.budget * ((M : Int) / x.period) ≤ x.period * ((M : Int) / x.period) := Int.mul_le_mul_of_nonneg_right b h2
    _ = M := h1
end Go.Proofs.Ytenfikfgliljmaa.LA
