/- Leadlag, pure, 6: what is looked at first; Step. -/
import Derived.Test.YtbecejhjdagkdaaUG
import Derived.Test.YtbecejhjdagkdaaFn2
set_option linter.unusedVariables false
set_option linter.unusedSimpArgs false
namespace Go.Eng.N
open Go Go.Eng
def okT (n : Int) : Bool := decide (0 ≤ n) && decide (n ≤ 6311433599)
def badU (u : Un) : Bool := !okT u.run || (u.on && u.fl)
def okS (us : List Un) (st tu : Int) : Bool := decide (1 ≤ us.length) && decide (us.length ≤ 16) && !us.any badU && decide (-1 ≤ st) && decide (st ≤ 6311433599) && okT tu
def okR (rot gap : Int) : Bool := decide (1 ≤ rot) && decide (rot ≤ 2678400) && decide (0 ≤ gap) && decide (gap ≤ 3600)
def checkV (rot gap : Int) (us : List Un) (st tu : Int) : Int := if okR rot gap = true then (if okS us st tu = true then 0 else 1) else 6
theorem checkV_0 {rot gap : Int} {us : List Un} {st tu : Int} (h : checkV rot gap us st tu = 0) : okR rot gap = true ∧ okS us st tu = true := by
  unfold checkV at h
  split at h
  · split at h
    · exact ⟨by assumption, by assumption⟩
    · cases h
  · cases h
theorem f30_ok {n : Int} {K : Bool → Prop} (h : K (okT n)) : f30 n K := by
  refine ⟨?_⟩
  unfold f30_d
  unfold okT at h
  refine bB_of (fun h1 => ?_) fun h1 => ?_
  · have : decide (0 ≤ n) = true := h1
    rw [this, Bool.true_and] at h
    exact h
  · have : decide (0 ≤ n) = false := h1
    rw [this, Bool.false_and] at h
    exact h
theorem f33_ok {u : Un} {K : Bool → Prop} (h : K (badU u)) : f33 u.run u.on u.fl K := by
  refine ⟨?_⟩
  unfold f33_d
  unfold badU at h
  refine f30_ok (bB_of (fun h1 => ?_) fun h1 => ?_)
  · rw [h1, Bool.true_or] at h; exact h
  · rw [h1, Bool.false_or] at h
    refine bB_of (fun h2 => ?_) fun h2 => ?_
    · rw [h2, Bool.true_and] at h; exact h
    · rw [h2, Bool.false_and] at h; exact h
theorem f34_ok {us : List Un} {f : Bool} (hl : us.length < 2 ^ 40) {K : Bool → Prop} (h : K (us.any badU)) : f34 (us.map Un.c) f K := by
  refine ⟨?_⟩
  unfold f34_d
  refine ⟨?_⟩
  unfold f45_d f45_p4
  rw [List.length_map]
  refine LoopP.find us badU (A := fun j => K (decide ((j : Int) ≥ 0))) (B := K (decide ((-1 : Int) ≥ 0))) (by omega) (fun j hj hq _ => ?_) (fun hq => ?_) (fun j hj N hA hN => ?_) fun N hB => ?_
  · rw [List.any_eq_true.2 ⟨_, List.getElem_mem hj, hq⟩] at h
    rw [decide_eq_true (by omega)]; exact h
  · rw [List.any_eq_false.2 fun x hx => by rw [hq x hx]; decide] at h
    rw [decide_eq_false (by omega)]; exact h
  · unfold f45_p4b0
    refine bB_t (ltL hj) ⟨rngM _ _ hj, ?_⟩
    rw [toNat_c, getD_map _ _ _ hj, w64_s j (by omega)]
    generalize us[j] = u at hA hN ⊢
    simp only [Un.c, ext_0, ext_s, ext_z, cS_c, cI_c, cB_c, cL_c, cO_c, oS_c, oI_c, oB_c, oL_c, nilC_c, toNat_c]
    exact f33_ok (bB_of hA hN)
  · unfold f45_p4b0
    exact bB_f (stopL _) hB
theorem okR_f {rot gap : Int} (h : ¬ (1 ≤ rot ∧ rot ≤ 2678400 ∧ 0 ≤ gap ∧ gap ≤ 3600)) : okR rot gap = false := by
  unfold okR
  rw [Bool.eq_false_iff]
  intro hc
  simp only [Bool.and_eq_true, decide_eq_true_eq] at hc
  omega
theorem okR_t {rot gap : Int} (h : okR rot gap = true) : 1 ≤ rot ∧ rot ≤ 2678400 ∧ 0 ≤ gap ∧ gap ≤ 3600 := by
  unfold okR at h
  simp only [Bool.and_eq_true, decide_eq_true_eq] at h
  omega
theorem f14_ok {rot gap : Int} {us : List Un} {f : Bool} {st tu : Int} {K : Int → Prop} (h : K (checkV rot gap us st tu)) : f14 rot gap (us.map Un.c) f st tu K := by
  refine ⟨?_⟩
  unfold f14_d
  unfold checkV at h
  have six : ¬ (1 ≤ rot ∧ rot ≤ 2678400 ∧ 0 ≤ gap ∧ gap ≤ 3600) → K 6 := fun hc => by
    rw [okR_f hc] at h; exact h
  refine bB_of (fun h1 => six (by have := of_decide_eq_true h1; omega)) fun h1 => ?_
  refine bB_of (fun h2 => six (by have := of_decide_eq_true h2; omega)) fun h2 => ?_
  refine bB_of (fun h3 => six (by have := of_decide_eq_true h3; omega)) fun h3 => ?_
  refine bB_of (fun h4 => six (by have := of_decide_eq_true h4; omega)) fun h4 => ?_
  have h1 := of_decide_eq_false h1
  have h2 := of_decide_eq_false h2
  have h3 := of_decide_eq_false h3
  have h4 := of_decide_eq_false h4
  have e : okR rot gap = true := by
    unfold okR
    simp only [Bool.and_eq_true, decide_eq_true_eq]
    omega
  rw [if_pos e] at h
  unfold f14_p7
  rw [List.length_map]
  have one : okS us st tu = false → K 1 := fun hc => by rw [hc] at h; exact h
  unfold okS at h one
  refine bB_of (fun k1 => one (by have := of_decide_eq_true k1; rw [decide_eq_false (p := 1 ≤ us.length) (by omega)]; rfl)) fun k1 => ?_
  refine bB_of (fun k2 => one (by have := of_decide_eq_true k2; rw [decide_eq_false (p := us.length ≤ 16) (by omega)]; simp)) fun k2 => ?_
  have k1 := of_decide_eq_false k1
  have k2 := of_decide_eq_false k2
  refine f34_ok (by omega) (bB_of (fun k3 => one (by rw [k3]; simp)) fun k3 => ?_)
  refine bB_of (fun k4 => one (by have := of_decide_eq_true k4; rw [decide_eq_false (p := -1 ≤ st) (by omega)]; simp)) fun k4 => ?_
  refine bB_of (fun k5 => one (by have := of_decide_eq_true k5; rw [decide_eq_false (p := st ≤ 6311433599) (by omega)]; simp)) fun k5 => ?_
  have k4 := of_decide_eq_false k4
  have k5 := of_decide_eq_false k5
  refine f30_ok (bB_of (fun k6 => one (by rw [Bool.not_eq_true'] at k6; rw [k6]; simp)) fun k6 => ?_)
  rw [Bool.not_eq_false'] at k6
  rw [if_pos (by rw [k3, k6, decide_eq_true (p := 1 ≤ us.length) (by omega), decide_eq_true (p := us.length ≤ 16) (by omega), decide_eq_true (p := -1 ≤ st) (by omega), decide_eq_true (p := st ≤ 6311433599) (by omega)]; rfl)] at h
  exact h
theorem f16_ok {rot gap : Int} {us : List Un} {f : Bool} {st tu : Int} {K : Int → Prop} (h : K (checkV rot gap us st tu)) : f16 rot gap (us.map Un.c) f st tu K := by
  refine ⟨?_⟩
  unfold f16_d
  unfold checkV at h
  have six : ¬ (1 ≤ rot ∧ rot ≤ 2678400 ∧ 0 ≤ gap ∧ gap ≤ 3600) → K 6 := fun hc => by
    rw [okR_f hc] at h; exact h
  refine bB_of (fun h1 => six (by have := of_decide_eq_true h1; omega)) fun h1 => ?_
  refine bB_of (fun h2 => six (by have := of_decide_eq_true h2; omega)) fun h2 => ?_
  refine bB_of (fun h3 => six (by have := of_decide_eq_true h3; omega)) fun h3 => ?_
  refine bB_of (fun h4 => six (by have := of_decide_eq_true h4; omega)) fun h4 => ?_
  have h1 := of_decide_eq_false h1
  have h2 := of_decide_eq_false h2
  have h3 := of_decide_eq_false h3
  have h4 := of_decide_eq_false h4
  have e : okR rot gap = true := by
    unfold okR
    simp only [Bool.and_eq_true, decide_eq_true_eq]
    omega
  rw [if_pos e] at h
  unfold f16_p7
  rw [List.length_map]
  have one : okS us st tu = false → K 1 := fun hc => by rw [hc] at h; exact h
  unfold okS at h one
  refine bB_of (fun k1 => one (by have := of_decide_eq_true k1; rw [decide_eq_false (p := 1 ≤ us.length) (by omega)]; rfl)) fun k1 => ?_
  refine bB_of (fun k2 => one (by have := of_decide_eq_true k2; rw [decide_eq_false (p := us.length ≤ 16) (by omega)]; simp)) fun k2 => ?_
  have k1 := of_decide_eq_false k1
  have k2 := of_decide_eq_false k2
  refine bB_of (fun k4 => one (by have := of_decide_eq_true k4; rw [decide_eq_false (p := -1 ≤ st) (by omega)]; simp)) fun k4 => ?_
  refine bB_of (fun k5 => one (by have := of_decide_eq_true k5; rw [decide_eq_false (p := st ≤ 6311433599) (by omega)]; simp)) fun k5 => ?_
  refine bB_of (fun k6 => one (by have := of_decide_eq_true k6; unfold okT; rw [decide_eq_false (p := 0 ≤ tu) (by omega)]; simp)) fun k6 => ?_
  refine bB_of (fun k7 => one (by have := of_decide_eq_true k7; unfold okT; rw [decide_eq_false (p := tu ≤ 6311433599) (by omega)]; simp)) fun k7 => ?_
  have k4 := of_decide_eq_false k4
  have k5 := of_decide_eq_false k5
  have k6 := of_decide_eq_false k6
  have k7 := of_decide_eq_false k7
  unfold f16_p11 f16_p12
  refine LoopP.any us badU (A := K 1) (B := K 0) (by omega) (fun q => one (by rw [q]; simp)) (fun q => ?_) (fun j hj N hA hN => ?_) fun N hB => ?_
  · rw [if_pos (by unfold okT; rw [q, decide_eq_true (p := 1 ≤ us.length) (by omega), decide_eq_true (p := us.length ≤ 16) (by omega), decide_eq_true (p := -1 ≤ st) (by omega), decide_eq_true (p := st ≤ 6311433599) (by omega), decide_eq_true (p := 0 ≤ tu) (by omega), decide_eq_true (p := tu ≤ 6311433599) (by omega)]; rfl)] at h
    exact h
  · unfold f16_p12b0
    refine bB_t (ltM _ _ hj) ⟨rngM _ _ hj, ?_⟩
    rw [toNat_c, getD_map _ _ _ hj, w64_s j (by omega)]
    generalize us[j] = u at hA hN ⊢
    simp only [Un.c, ext_0, ext_s, ext_z, cS_c, cI_c, cB_c, cL_c, cO_c, oS_c, oI_c, oB_c, oL_c, nilC_c, toNat_c]
    unfold badU okT at hA hN
    refine bB_of (fun q1 => hA (by have := of_decide_eq_true q1; rw [decide_eq_false (p := 0 ≤ u.run) (by omega)]; rfl)) fun q1 => ?_
    refine bB_of (fun q2 => hA (by have := of_decide_eq_true q2; rw [decide_eq_false (p := u.run ≤ 6311433599) (by omega)]; simp)) fun q2 => ?_
    have q1 := of_decide_eq_false q1
    have q2 := of_decide_eq_false q2
    rw [decide_eq_true (p := 0 ≤ u.run) (by omega), decide_eq_true (p := u.run ≤ 6311433599) (by omega)] at hA hN
    refine bB_of (fun q3 => bB_of (fun q4 => hA (by rw [q3, q4]; rfl)) fun q4 => hN (by rw [q4]; simp)) fun q3 => hN (by rw [q3]; rfl)
  · unfold f16_p12b0
    exact bB_f (stopM _ _) hB
theorem okS_t {us : List Un} {st tu : Int} (h : okS us st tu = true) : (1 ≤ us.length ∧ us.length ≤ 16) ∧ (∀ u ∈ us, Gd u) ∧ (-1 ≤ st ∧ st ≤ 6311433599) ∧ (0 ≤ tu ∧ tu ≤ 6311433599) := by
  unfold okS at h
  simp only [Bool.and_eq_true, decide_eq_true_eq, okT, Bool.not_eq_true'] at h
  refine ⟨⟨by omega, by omega⟩, fun u hu => ?_, ⟨by omega, by omega⟩, by omega, by omega⟩
  have := List.any_eq_false.1 h.1.1.1.2 u hu
  simp only [badU, okT, Bool.or_eq_true, Bool.not_eq_true', Bool.and_eq_false_iff, decide_eq_false_iff_not, not_or, not_and] at this
  exact ⟨by omega, by omega⟩
def timV (st tu now : Int) : Bool := okT now && decide (tu ≤ now) && decide (st ≤ now)
theorem f41_ok {es : List (List PC)} {f : Bool} {st tu now : Int} {K : Bool → Prop} (h : K (timV st tu now)) : f41 es f st tu now K := by
  refine ⟨?_⟩
  unfold f41_d
  unfold timV at h
  refine f30_ok (bB_of (fun h1 => ?_) fun h1 => ?_)
  · rw [h1, Bool.true_and] at h
    refine bB_of (fun h2 => ?_) fun h2 => ?_
    · have h2 : decide (tu ≤ now) = true := h2
      rw [h2, Bool.true_and] at h
      exact h
    · have h2 : decide (tu ≤ now) = false := h2
      rw [h2, Bool.false_and] at h
      exact h
  · rw [h1, Bool.false_and, Bool.false_and] at h
    exact h
theorem f43_ok {es : List (List PC)} {f : Bool} {st tu now : Int} {K : Bool → Prop} (h : K (timV st tu now)) : f43 es f st tu now K := by
  refine ⟨?_⟩
  unfold f43_d
  unfold timV okT at h
  refine bB_of (fun h1 => ?_) fun h1 => ?_
  · have h1 : decide (0 ≤ now) = true := h1
    rw [h1, Bool.true_and] at h
    refine bB_of (fun h2 => ?_) fun h2 => ?_
    · rw [h2, Bool.true_and] at h
      refine bB_of (fun h3 => ?_) fun h3 => ?_
      · have h3 : decide (tu ≤ now) = true := h3
        rw [h3, Bool.true_and] at h
        exact h
      · have h3 : decide (tu ≤ now) = false := h3
        rw [h3, Bool.false_and] at h
        exact h
    · rw [h2, Bool.false_and, Bool.false_and] at h
      exact h
  · have h1 : decide (0 ≤ now) = false := h1
    rw [h1, Bool.false_and, Bool.false_and, Bool.false_and] at h
    exact h
/-! ### Copies and likeness -/
theorem f9_ok {us : List Un} {f : Bool} (hl : us.length < 2 ^ 40) {st tu : Int} {K : List (List PC) → Bool → Int → Int → Prop} (h : K (us.map Un.c) false st tu) : f9 (us.map Un.c) f st tu K := by
  refine ⟨?_⟩
  unfold f9_d f9_p6
  refine LoopP.inv us.length (fun j x => x.1 = (j : Int) ∧ SlR x.2.1 x.2.2.1 x.2.2.2 ((us.take j).map Un.c)) 0 ⟨rfl, SlR.nil⟩ (Nat.zero_le _) (by omega) ?_ ?_
  · rintro j ⟨x, i, n, es⟩ _ hj ⟨rfl, hr⟩ N hN
    have hr : SlR i n es _ := hr
    have hn := hr.n
    rw [List.length_map, List.length_take] at hn
    have hp := hr.push (Un.c us[j])
    unfold f9_p6b0
    dsimp only
    refine bB_t (ltM _ _ hj) ⟨rngM _ _ hj, ?_⟩
    rw [toNat_c, getD_map _ _ _ hj, w64_s j (by omega)]
    have fin : SlR 0 (n + 1) (List.take n (List.drop i es) ++ [Un.c us[j]]) ((us.take (j + 1)).map Un.c) := by
      rw [List.take_succ_eq_append_getElem hj, List.map_append]; exact hp
    generalize us[j] = u at fin ⊢
    simp only [Un.c, ext_0, ext_s, ext_z, cS_c, cI_c, cB_c, cL_c, cO_c, oS_c, oI_c, oB_c, oL_c, nilC_c, toNat_c]
    refine ⟨rngM _ _ hj, rngM _ _ hj, Nat.le_of_eq hr.len, by omega, by omega, hN _ ⟨rfl, fin⟩⟩
  · rintro ⟨x, i, n, es⟩ ⟨rfl, hr⟩ N
    have hr : SlR i n es _ := hr
    rw [List.take_of_length_le (Nat.le_refl _)] at hr
    unfold f9_p6b0
    dsimp only
    rw [hr.take]
    exact bB_f (stopM _ _) h
theorem f18_ok {us : List Un} {f : Bool} (hl : us.length < 2 ^ 40) {st tu : Int} {K : List (List PC) → Bool → Int → Int → Prop} (h : K (us.map Un.c) false st tu) : f18 (us.map Un.c) f st tu K := by
  refine ⟨?_⟩
  unfold f18_d f18_p6
  refine LoopP.inv us.length (fun j x => x.1 = (j : Int) ∧ SlR x.2.1 x.2.2.1 x.2.2.2 ((us.take j).map Un.c)) 0 ⟨rfl, SlR.nil⟩ (Nat.zero_le _) (by omega) ?_ ?_
  · rintro j ⟨x, i, n, es⟩ _ hj ⟨rfl, hr⟩ N hN
    have hr : SlR i n es _ := hr
    have hn := hr.n
    rw [List.length_map, List.length_take] at hn
    have hp := hr.push (Un.c us[j])
    unfold f18_p6b0
    dsimp only
    refine bB_t (ltM _ _ hj) ⟨rngM _ _ hj, ?_⟩
    rw [toNat_c, getD_map _ _ _ hj, w64_s j (by omega)]
    have fin : SlR 0 (n + 1) (List.take n (List.drop i es) ++ [Un.c us[j]]) ((us.take (j + 1)).map Un.c) := by
      rw [List.take_succ_eq_append_getElem hj, List.map_append]; exact hp
    generalize us[j] = u at fin ⊢
    simp only [Un.c, ext_0, ext_s, ext_z, cS_c, cI_c, cB_c, cL_c, cO_c, oS_c, oI_c, oB_c, oL_c, nilC_c, toNat_c]
    refine ⟨rngM _ _ hj, rngM _ _ hj, Nat.le_of_eq hr.len, by omega, by omega, hN _ ⟨rfl, fin⟩⟩
  · rintro ⟨x, i, n, es⟩ ⟨rfl, hr⟩ N
    have hr : SlR i n es _ := hr
    rw [List.take_of_length_le (Nat.le_refl _)] at hr
    unfold f18_p6b0
    dsimp only
    rw [hr.take]
    exact bB_f (stopM _ _) h
theorem f17_ok {us : List Un} {f g : Bool} (hl : us.length < 2 ^ 40) {st tu : Int} {K : Bool → Prop} (h : K true) : f17 (us.map Un.c) f st tu (us.map Un.c) g st tu K := by
  refine ⟨?_⟩
  unfold f17_d
  refine bB_f (by simp) (bB_f (by simp) (bB_f (by simp) ?_))
  unfold f17_p7 f17_p8
  refine LoopP.seq us.length (fun j => (j : Int)) rfl (by omega) (fun j hj N hN => ?_) fun N => ?_
  · unfold f17_p8b0
    refine bB_t (ltM _ _ hj) ⟨rngM _ _ hj, ?_⟩
    rw [toNat_c, getD_map _ _ _ hj, w64_s j (by omega)]
    generalize us[j] = u
    simp only [Un.c, ext_0, ext_s, ext_z, cS_c, cI_c, cB_c, cL_c, cO_c, oS_c, oI_c, oB_c, oL_c, nilC_c, toNat_c]
    exact ⟨rngM _ _ hj, bB_f (by simp) hN⟩
  · unfold f17_p8b0
    exact bB_f (stopM _ _) h
theorem f15_ok {a b : Int} {K : Int → Int → Prop} (h : K a b) : f15 a b K := ⟨h⟩
/-! ### Step -/
def stepE (rot gap : Int) (s : Ss) (need : Int) (fs : List Bool) (now : Int) : Ss × Bool × Int :=
  if checkV rot gap s.us s.st s.tu ≠ 0 then (⟨[], 0, 0⟩, true, checkV rot gap s.us s.st s.tu) else if fs.length ≠ s.us.length then (⟨[], 0, 0⟩, true, 1) else if timV s.st s.tu now = true then (stepU rot gap s need fs now, false, 0) else (⟨[], 0, 0⟩, true, 6)
section
variable {rot gap : Int} {s : Ss} {need : Int} {fs : List Bool} {f fl : Bool} {now : Int} {K : List (List PC) → Bool → Int → Int → Int → Prop}
theorem f28_ok (h : ∀ r, r = stepE rot gap s need fs now → r.1.us.length < 2 ^ 40 → K (r.1.us.map Un.c) r.2.1 r.1.st r.1.tu r.2.2) : f28 rot gap (s.us.map Un.c) f s.st s.tu need (fs.map fbc) fl now K := by
  refine ⟨?_⟩
  unfold f28_d
  unfold stepE at h
  refine f14_ok (bB_of (fun h1 => ?_) fun h1 => ?_)
  · have h1 : checkV rot gap s.us s.st s.tu ≠ 0 := by simpa using h1
    rw [if_pos h1] at h
    exact h _ rfl (by simp)
  · have h1 : checkV rot gap s.us s.st s.tu = 0 := by simpa using h1
    rw [if_neg (by rw [h1]; decide)] at h
    have hc := checkV_0 h1
    have hr := okR_t hc.1
    have hs := okS_t hc.2
    rw [List.length_map, List.length_map]
    refine bB_of (fun h2 => ?_) fun h2 => ?_
    · have h2 : fs.length ≠ s.us.length := by
        intro e; rw [e] at h2; simp at h2
      rw [if_pos h2] at h
      exact h _ rfl (by simp)
    · have h2 : fs.length = s.us.length := by
        have : ((fs.length : Nat) : Int) = ((s.us.length : Nat) : Int) := by simpa using h2
        omega
      rw [if_neg (by rw [h2]; simp)] at h
      refine f41_ok (bB_of (fun h3 => ?_) fun h3 => ?_)
      · rw [Bool.not_eq_true'] at h3
        rw [if_neg (by rw [h3]; decide)] at h
        exact h _ rfl (by simp)
      · rw [Bool.not_eq_false'] at h3
        rw [if_pos h3] at h
        refine f42_ok h2 (by omega) hs.2.1 hs.2.2.1.1 hs.2.2.1.2 hs.2.2.2.1 hs.2.2.2.2 hr.1 hr.2.1 hr.2.2.1 hr.2.2.2 (h _ rfl ?_)
        show (stepU rot gap s need fs now).us.length < _
        rw [stepU_len h2]; omega
theorem f29_ok (h : ∀ r, r = stepE rot gap s need fs now → r.1.us.length < 2 ^ 40 → K (r.1.us.map Un.c) r.2.1 r.1.st r.1.tu r.2.2) : f29 rot gap (s.us.map Un.c) f s.st s.tu need (fs.map fbc) fl now K := by
  refine ⟨?_⟩
  unfold f29_d
  unfold stepE at h
  refine f16_ok (bB_of (fun h1 => ?_) fun h1 => ?_)
  · have h1 : checkV rot gap s.us s.st s.tu ≠ 0 := by simpa using h1
    rw [if_pos h1] at h
    exact h _ rfl (by simp)
  · have h1 : checkV rot gap s.us s.st s.tu = 0 := by simpa using h1
    rw [if_neg (by rw [h1]; decide)] at h
    have hc := checkV_0 h1
    have hr := okR_t hc.1
    have hs := okS_t hc.2
    rw [List.length_map, List.length_map]
    refine bB_of (fun h2 => ?_) fun h2 => ?_
    · have h2 : fs.length ≠ s.us.length := by
        intro e; rw [e] at h2; simp at h2
      rw [if_pos h2] at h
      exact h _ rfl (by simp)
    · have h2 : fs.length = s.us.length := by
        have : ((fs.length : Nat) : Int) = ((s.us.length : Nat) : Int) := by simpa using h2
        omega
      rw [if_neg (by rw [h2]; simp)] at h
      refine f43_ok (bB_of (fun h3 => ?_) fun h3 => ?_)
      · rw [Bool.not_eq_true'] at h3
        rw [if_neg (by rw [h3]; decide)] at h
        exact h _ rfl (by simp)
      · rw [Bool.not_eq_false'] at h3
        rw [if_pos h3] at h
        refine f44_ok h2 (by omega) hs.2.1 hs.2.2.1.1 hs.2.2.1.2 hs.2.2.2.1 hs.2.2.2.2 hr.1 hr.2.1 hr.2.2.1 hr.2.2.2 (h _ rfl ?_)
        show (stepU rot gap s need fs now).us.length < _
        rw [stepU_len h2]; omega
end
end Go.Eng.N
