/- Notify, pure, 5: the week. -/
import Derived.Test.YtbidkfbcmhioiaaDoorPT
import Derived.Test.YtbidkfbcmhioiaaDoorPD
import Derived.Test.YtbidkfbcmhioiaaDoorFn2
set_option linter.unusedVariables false
set_option linter.unusedSimpArgs false
namespace Go.Eng.N
open Go Go.Eng
def anyB (rs : List Rc) (d : Nat) (m : Int) (k : Nat) : Bool := rs.any fun r => tellB r d m k
/-- The week's table. -/
def wk (rs : List Rc) (k : Nat) (i : Nat) : Bool := anyB rs (i / 1440) ((i % 1440 : Nat) : Int) k
theorem tell_out {r : Rc} {d : Nat} {m : Int} {k : Nat} (h : m < r.fr ∨ r.to < m) : tellB r d m k = false := by
  unfold tellB
  rcases h with h | h
  · rw [decide_eq_false (by omega)]; simp
  · rw [decide_eq_false (p := m ≤ r.to) (by omega)]; simp
theorem ix_eq {d m : Nat} : (0 + ((Int.toNat (d : Int)) * 1440)) + ((Int.toNat (m : Int)) * 1) = d * 1440 + m := by
  rw [toNat_c, toNat_c, Nat.zero_add, Nat.mul_one]
theorem f58_p18_sp {r : Rc} (hr : Good r) {d : Nat} (hd : d < 7) {k : Nat} (hk : k ≤ 2) {g : Nat → Bool} {es : List (List PC)} {full : Bool} {n1 n2 n3 : Int} {cs : List PC} {K : List PC → Prop}
    (h : K (tabC 10080 fun i => g i || (decide (i / 1440 = d) && tellB r d ((i % 1440 : Nat) : Int) k))) : f58_p18 ((2 ^ k : Nat) : Int) (d : Int) es full n1 n2 n3 cs r.nm r.days r.fr r.to r.kinds K (r.fr, tabC 10080 g) := by
  have h1 := hr.f1
  have h2 := hr.f2
  have h3 := hr.t
  unfold f58_p18
  refine LoopP.inv (r.to.toNat + 1) (fun m x => x = ((m : Int), tabC 10080 fun i => g i || (decide (i / 1440 = d ∧ i % 1440 < m) && tellB r d ((i % 1440 : Nat) : Int) k))) r.fr.toNat ?_ (by omega) (by omega) ?_ ?_
  · refine pair_eq (by omega) (tab_congr fun i hi => ?_)
    by_cases hc : i / 1440 = d ∧ i % 1440 < r.fr.toNat
    · rw [tell_out (.inl (by omega))]; simp
    · rw [decide_eq_false hc]; simp
  · rintro m x hm1 hm2 rfl N hN
    unfold f58_p18b0
    dsimp only
    have hr7 : 0 ≤ (d : Int) ∧ (d : Int) < 7 := by omega
    have hrm : 0 ≤ (m : Int) ∧ (m : Int) < 1440 := by omega
    have hi : d * 1440 + m < 10080 := by omega
    refine bB_t (decide_eq_true (by omega)) ⟨hr7, hrm, ?_⟩
    rw [ix_eq, tab_ext1 _ _ hi, oB_c]
    have fin : ∀ b : Bool, b = (g (d * 1440 + m) || tellB r d (m : Int) k) → N (w64 ((m : Int) + 1), splice (tabC 10080 fun i => g i || (decide (i / 1440 = d ∧ i % 1440 < m) && tellB r d ((i % 1440 : Nat) : Int) k)) (d * 1440 + m) [pB b]) := fun b hb => by
      rw [w64_s m (by omega), tab_set _ _ hi]
      refine hN _ (pair_eq rfl (tab_congr fun j hj => ?_))
      by_cases e : j = d * 1440 + m
      · subst e
        have e1 : (d * 1440 + m) / 1440 = d := by omega
        have e2 : (d * 1440 + m) % 1440 = m := by omega
        rw [if_pos rfl, hb, e1, e2, decide_eq_true (show d = d ∧ m < m + 1 by omega)]
        simp
      · rw [if_neg e]
        congr 2
        rw [decide_eq_decide]
        omega
    have e1 : (d * 1440 + m) / 1440 = d := by omega
    have e2 : (d * 1440 + m) % 1440 = m := by omega
    refine bB_of (fun hb => ⟨hr7, hrm, rfl, by rw [tab_len]; omega, fin true ?_⟩) fun hb => ⟨hr7, ?_⟩
    · rw [decide_eq_false (by omega)] at hb
      simp only [Bool.false_and, Bool.or_false] at hb
      rw [hb]; rfl
    · rw [decide_eq_false (by omega)] at hb
      simp only [Bool.false_and, Bool.or_false] at hb
      rw [w64_in (by omega) (by omega)]
      refine f91_ok hr hd hk ⟨hrm, rfl, by rw [tab_len]; omega, fin _ ?_⟩
      rw [hb]; rfl
  · rintro x rfl N
    unfold f58_p18b0
    dsimp only
    refine bB_f (decide_eq_false (by omega)) ?_
    rw [tab_congr (h := fun i => g i || (decide (i / 1440 = d) && tellB r d ((i % 1440 : Nat) : Int) k)) fun i hi => ?_]
    · exact h
    by_cases hc : i % 1440 < r.to.toNat + 1
    · simp [hc]
    · rw [tell_out (.inr (by omega))]; simp
theorem f58_p12_sp {r : Rc} (hr : Good r) {k : Nat} (hk : k ≤ 2) {g : Nat → Bool} {es : List (List PC)} {full : Bool} {n1 n2 : Int} {cs : List PC} {K : List PC → Prop}
    (h : K (tabC 10080 fun i => g i || tellB r (i / 1440) ((i % 1440 : Nat) : Int) k)) : f58_p12 ((2 ^ k : Nat) : Int) es full n1 n2 cs r.nm r.days r.fr r.to r.kinds K (0, tabC 10080 g) := by
  unfold f58_p12
  refine LoopP.inv 7 (fun d x => x = ((d : Int), tabC 10080 fun i => g i || (decide (i / 1440 < d) && tellB r (i / 1440) ((i % 1440 : Nat) : Int) k))) 0 (pair_eq rfl (tab_congr fun i hi => by simp)) (by omega) (by omega) ?_ ?_
  · rintro d x _ hd rfl N hN
    unfold f58_p12b0
    dsimp only
    refine bB_t (decide_eq_true (by omega)) (f58_p18_sp hr hd hk ?_)
    rw [w64_s d (by omega)]
    refine hN _ (pair_eq rfl (tab_congr fun i hi => ?_))
    by_cases e : i / 1440 = d
    · subst e; simp
    · have e2 : (decide (i / 1440 < d)) = decide (i / 1440 < d + 1) := by rw [decide_eq_decide]; omega
      simp only [decide_eq_false e, Bool.false_and, Bool.or_false, e2]
  · rintro x rfl N
    unfold f58_p12b0
    dsimp only
    refine bB_f (decide_eq_false (by omega)) ?_
    rw [tab_congr (h := fun i => g i || tellB r (i / 1440) ((i % 1440 : Nat) : Int) k) fun i hi => ?_]
    · exact h
    rw [decide_eq_true (by omega), Bool.true_and]
theorem wk_take (rs : List Rc) (k : Nat) {j : Nat} (hj : j < rs.length) (i : Nat) : wk (rs.take (j + 1)) k i = (wk (rs.take j) k i || tellB rs[j] (i / 1440) ((i % 1440 : Nat) : Int) k) := by
  unfold wk anyB
  rw [List.take_succ_eq_append_getElem hj, List.any_append]
  simp
theorem plan_end {g : Nat → Bool} {K : List PC → Prop} (h : K (tabC 10080 g)) : (ext (tabC 10080 g) 0 10080).length = 10080 ∧ (ext (tabC 10080 g) 0 10080).length = 10080 ∧ 10080 ≤ (List.replicate 10080 (pB false)).length ∧ (ext (splice (List.replicate 10080 (pB false)) 0 (ext (tabC 10080 g) 0 10080)) 0 10080).length = 10080 ∧ K (ext (splice (List.replicate 10080 (pB false)) 0 (ext (tabC 10080 g) 0 10080)) 0 10080) := by
  rw [tab_all, splice_all (by rw [tab_len, List.length_replicate]), tab_all, tab_len, List.length_replicate]
  exact ⟨rfl, rfl, Nat.le_refl _, rfl, h⟩
theorem f58_ok {rs : List Rc} {full : Bool} (hl : rs.length ≤ 2 ^ 40) (hg : ∀ r ∈ rs, Good r) {k : Nat} (hk : k ≤ 2) {K : List PC → Prop} (h : K (tabC 10080 (wk rs k))) : f58 (rs.map Rc.c) full ((2 ^ k : Nat) : Int) K := by
  refine ⟨?_⟩
  unfold f58_d f58_p6
  refine LoopP.inv rs.length (fun j x => x = ((j : Int), tabC 10080 (wk (rs.take j) k))) 0 (pair_eq rfl ((tab_rep _).trans (tab_congr fun i hi => by simp [wk, anyB]))) (Nat.zero_le _) (by omega) ?_ ?_
  · rintro j x _ hj rfl N hN
    unfold f58_p6b0
    dsimp only
    refine bB_t (ltM _ _ hj) ⟨rngM _ _ hj, ?_⟩
    rw [toNat_c, getD_map _ _ _ hj]
    simp only [Rc.c, ext_0, ext_s, ext_z, cS_c, cI_c, cB_c, cL_c, cO_c, oS_c, oI_c, oB_c, oL_c, nilC_c, toNat_c]
    refine f58_p12_sp (hg _ (List.getElem_mem hj)) hk ?_
    rw [w64_s j (by omega)]
    exact hN _ (pair_eq rfl (tab_congr fun i hi => (wk_take rs k hj i).symm))
  · rintro x rfl N
    unfold f58_p6b0
    dsimp only
    refine bB_f (stopM _ _) ?_
    rw [List.take_length]
    exact plan_end (K := K) h
end Go.Eng.N
