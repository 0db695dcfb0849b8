/- Collect, pure, 1: records; lists that are collections. -/
import Derived.Test.YteclemahimldeaaST
import Derived.Test.YteclemahimldeaaFn2
set_option linter.unusedVariables false
set_option linter.unusedSimpArgs false
namespace Go.Eng.N
open Go Go.Eng
structure Rec where
  no : Int
  at_ : Int
  k : Int
  v : Int
  q : Int
  g : Int
  deriving DecidableEq
def Rec.c (r : Rec) : List PC := [pI r.no, pI r.at_, pI r.k, pI r.v, pI r.q, pI r.g]
theorem Rec_len (r : Rec) : r.c.length = 6 := rfl
def fst (r : Rec) : Int := if r.g > 0 then r.no - r.g + 1 else r.no
def gapR (a b : Int) : Rec := ⟨b, 0, 0, 0, 0, b - a + 1⟩
def risV (t : Int) : List Rec → Bool
  | [] => true
  | r :: l => if r.g ≠ 0 then risV t l else if r.at_ < t then false else risV r.at_ l
theorem risV_cons (t : Int) (r : Rec) (l : List Rec) : risV t (r :: l) = if r.g ≠ 0 then risV t l else if r.at_ < t then false else risV r.at_ l := rfl
theorem f36_ok {l : List Rec} {f : Bool} (hl : l.length < 2 ^ 40) {K : Int → Prop} (h : ∀ m : Int, decide (m ≥ 0) = !risV 0 l → K m) : f36 (l.map Rec.c) f K := by
  refine ⟨?_⟩
  unfold f36_d f36_p6
  rw [List.length_map]
  refine LoopP.inv l.length (fun j x => x.2 = (j : Int) ∧ risV 0 l = risV x.1 (l.drop j)) 0 ⟨rfl, rfl⟩ (Nat.zero_le _) (by omega) ?_ ?_
  · rintro j ⟨t, x⟩ _ hj ⟨rfl, hr⟩ N hN
    dsimp only at hr
    rw [List.drop_eq_getElem_cons hj] at hr
    unfold f36_p6b0
    dsimp only
    refine bB_t (ltL hj) ⟨rngM _ _ hj, ?_⟩
    rw [toNat_c, getD_map _ _ _ hj, w64_s j (by omega)]
    generalize l[j] = r at hr ⊢
    simp only [Rec.c, ext_0, ext_s, ext_z, cS_c, cI_c, cB_c, cL_c, cO_c, oS_c, oI_c, oB_c, oL_c, nilC_c, toNat_c]
    rw [risV_cons] at hr
    refine bB_of (fun h1 => hN _ ⟨rfl, ?_⟩) fun h1 => ?_
    · rw [if_pos (by simpa using h1)] at hr; exact hr
    · rw [if_neg (by simpa using h1)] at hr
      refine bB_of (fun h2 => h _ ?_) fun h2 => hN _ ⟨rfl, ?_⟩
      · rw [if_pos (of_decide_eq_true h2)] at hr
        rw [hr, decide_eq_true (by omega)]; rfl
      · rw [if_neg (of_decide_eq_false h2)] at hr; exact hr
  · rintro ⟨t, x⟩ ⟨rfl, hr⟩ N
    dsimp only at hr
    rw [List.drop_eq_nil_of_le (Nat.le_refl _)] at hr
    unfold f36_p6b0
    dsimp only
    exact bB_f (stopL _) (h _ (by rw [hr]; rfl))
theorem f39_ok {l : List Rec} {f : Bool} (hl : l.length < 2 ^ 40) {K : Bool → Prop} (h : K (risV 0 l)) : f39 (l.map Rec.c) f K := by
  refine ⟨?_⟩
  unfold f39_d f39_p6
  refine LoopP.inv l.length (fun j x => x.2 = (j : Int) ∧ risV 0 l = risV x.1 (l.drop j)) 0 ⟨rfl, rfl⟩ (Nat.zero_le _) (by omega) ?_ ?_
  · rintro j ⟨t, x⟩ _ hj ⟨rfl, hr⟩ N hN
    dsimp only at hr
    rw [List.drop_eq_getElem_cons hj] at hr
    unfold f39_p6b0
    dsimp only
    refine bB_t (ltM _ _ hj) ⟨rngM _ _ hj, ?_⟩
    rw [toNat_c, getD_map _ _ _ hj, w64_s j (by omega)]
    generalize l[j] = r at hr ⊢
    simp only [Rec.c, ext_0, ext_s, ext_z, cS_c, cI_c, cB_c, cL_c, cO_c, oS_c, oI_c, oB_c, oL_c, nilC_c, toNat_c]
    rw [risV_cons] at hr
    refine bB_of (fun h1 => ⟨rngM _ _ hj, ?_⟩) fun h1 => hN _ ⟨rfl, ?_⟩
    · rw [if_neg (by simpa using h1)] at hr
      refine bB_of (fun h2 => ?_) fun h2 => ⟨rngM _ _ hj, hN _ ⟨rfl, ?_⟩⟩
      · rw [if_pos (of_decide_eq_true h2)] at hr
        rw [hr] at h; exact h
      · rw [if_neg (of_decide_eq_false h2)] at hr; exact hr
    · rw [if_pos (by simpa using h1)] at hr; exact hr
  · rintro ⟨t, x⟩ ⟨rfl, hr⟩ N
    dsimp only at hr
    rw [List.drop_eq_nil_of_le (Nat.le_refl _)] at hr
    unfold f39_p6b0
    dsimp only
    rw [hr] at h
    exact bB_f (stopM _ _) h
/-- What a record may hold. -/
def rng (r : Rec) : Bool := decide (1 ≤ r.no) && decide (r.no ≤ 1000000000) && decide (0 ≤ r.g) && decide (r.g ≤ r.no) && decide (0 ≤ r.at_) && decide (r.at_ ≤ 6311433599)
theorem rng_t {r : Rec} (h : rng r = true) : 1 ≤ r.no ∧ r.no ≤ 1000000000 ∧ 0 ≤ r.g ∧ r.g ≤ r.no ∧ 0 ≤ r.at_ ∧ r.at_ ≤ 6311433599 := by
  unfold rng at h
  simp only [Bool.and_eq_true, decide_eq_true_eq] at h
  omega
theorem rng_f {r : Rec} (h : ¬ (1 ≤ r.no ∧ r.no ≤ 1000000000 ∧ 0 ≤ r.g ∧ r.g ≤ r.no ∧ 0 ≤ r.at_ ∧ r.at_ ≤ 6311433599)) : rng r = false := by
  rw [Bool.eq_false_iff]
  exact fun hc => h (rng_t hc)
theorem rng_i {r : Rec} (h : 1 ≤ r.no ∧ r.no ≤ 1000000000 ∧ 0 ≤ r.g ∧ r.g ≤ r.no ∧ 0 ≤ r.at_ ∧ r.at_ ≤ 6311433599) : rng r = true := by
  unfold rng
  simp only [Bool.and_eq_true, decide_eq_true_eq]
  omega
def r0 : Rec := ⟨0, 0, 0, 0, 0, 0⟩
def badI (l : List Rec) (i : Nat) : Bool := decide ((l.getD i r0).g ≠ 0) && (decide ((l.getD i r0).at_ ≠ 0) || !(((l.getD i r0).k == 0) && (((l.getD i r0).v == 0) && true)) || decide ((l.getD i r0).q ≠ 0) || (decide (0 < i) && decide ((l.getD (i - 1) r0).g ≠ 0)))
def conI (l : List Rec) (i : Nat) : Bool := decide (fst (l.getD (i + 1) r0) ≠ (l.getD i r0).no + 1)
def checkV (l : List Rec) : Int := if l.all rng = true then (if (List.range l.length).any (badI l) = true then 1 else if (List.range (l.length - 1)).any (conI l) = true then 10 else if risV 0 l = true then 0 else 15) else 6
theorem f33_ok {r : Rec} (hr : rng r = true) {K : Int → Prop} (h : K (fst r)) : f33 r.no r.at_ r.k r.v r.q r.g K := by
  refine ⟨?_⟩
  unfold f33_d
  have := rng_t hr
  have e : w64 (w64 (r.no - (if (1 : Int) > r.g then 1 else r.g)) + 1) = fst r := by
    unfold fst
    split
    · rw [w64_in (n := r.no - 1) (by omega) (by omega), w64_in (by omega) (by omega), if_neg (by omega)]; omega
    · rw [w64_in (n := r.no - r.g) (by omega) (by omega), w64_in (by omega) (by omega), if_pos (by omega)]
  rw [e]; exact h
theorem f22_ok {r : Rec} (hr : rng r = true) {K : Int → Prop} (h : K (fst r)) : f22 r.no r.at_ r.k r.v r.q r.g K := by
  refine ⟨?_⟩
  unfold f22_d
  have := rng_t hr
  unfold fst at h
  refine bB_of (fun h1 => ?_) fun h1 => ?_
  · rw [if_pos (of_decide_eq_true h1)] at h
    rw [w64_in (n := r.no - r.g) (by omega) (by omega), w64_in (by omega) (by omega)]
    exact h
  · rw [if_neg (of_decide_eq_false h1)] at h; exact h
theorem f21_ok {l : List Rec} {f : Bool} (hl : l.length < 2 ^ 40) {K : Int → Prop} (h : K (checkV l)) : f21 (l.map Rec.c) f K := by
  refine ⟨?_⟩
  unfold f21_d f21_p4
  unfold checkV at h
  rw [List.length_map]
  refine LoopP.all l rng (A := K 6) (B := _) (by omega) (fun q => by rw [q] at h; exact h) (fun q => q) (fun j hj N hA hN => ?_) fun N hB => ?_
  · unfold f21_p4b0
    refine bB_t (ltL hj) ⟨rngM _ _ hj, ?_⟩
    rw [toNat_c, getD_map _ _ _ hj, w64_s j (by omega)]
    generalize l[j] = r at hA hN ⊢
    simp only [Rec.c, ext_0, ext_s, ext_z, cS_c, cI_c, cB_c, cL_c, cO_c, oS_c, oI_c, oB_c, oL_c, nilC_c, toNat_c]
    refine bB_of (fun q => hA (rng_f (by have := of_decide_eq_true q; omega))) fun q1 => ?_
    refine bB_of (fun q => hA (rng_f (by have := of_decide_eq_true q; omega))) fun q2 => ?_
    refine bB_of (fun q => hA (rng_f (by have := of_decide_eq_true q; omega))) fun q3 => ?_
    refine bB_of (fun q => hA (rng_f (by have := of_decide_eq_true q; omega))) fun q4 => ?_
    refine bB_of (fun q => hA (rng_f (by have := of_decide_eq_true q; omega))) fun q5 => ?_
    refine bB_of (fun q => hA (rng_f (by have := of_decide_eq_true q; omega))) fun q6 => ?_
    have q1 := of_decide_eq_false q1
    have q2 := of_decide_eq_false q2
    have q3 := of_decide_eq_false q3
    have q4 := of_decide_eq_false q4
    have q5 := of_decide_eq_false q5
    have q6 := of_decide_eq_false q6
    exact hN (rng_i (by omega))
  unfold f21_p4b0
  refine bB_f (stopL _) ?_
  have hB : l.all rng = true := hB
  rw [if_pos hB] at h
  have hin : ∀ j (hj : j < l.length), rng l[j] = true := fun j hj => List.all_eq_true.1 hB _ (List.getElem_mem hj)
  unfold f21_p16
  refine LoopP.findS (fun j => (j : Int)) rfl (List.range l.length) (badI l) (A := fun _ => K 1) (B := (List.range l.length).any (badI l) = false) (by rw [List.length_range]; omega) (fun j hj hq _ => ?_) (fun q => by rw [List.any_eq_false]; intro x hx; rw [q x hx]; decide) (fun j hj N hA hN => ?_) fun N hB => ?_
  · rw [if_pos (List.any_eq_true.2 ⟨_, List.getElem_mem hj, hq⟩)] at h; exact h
  · rw [List.length_range] at hj
    rw [List.getElem_range] at hA hN
    unfold f21_p16b0
    refine bB_t (ltL hj) ⟨rngM _ _ hj, ?_⟩
    rw [toNat_c, getD_map _ _ _ hj, w64_s j (by omega)]
    unfold badI at hA hN
    rw [getD_in _ _ hj] at hA hN
    generalize l[j] = r at hA hN ⊢
    simp only [Rec.c, ext_0, ext_s, ext_z, cS_c, cI_c, cB_c, cL_c, cO_c, oS_c, oI_c, oB_c, oL_c, nilC_c, toNat_c]
    refine bB_of (fun q1 => ?_) fun q1 => hN (by rw [decide_eq_false (p := r.g ≠ 0) (by simpa using q1)]; rfl)
    rw [decide_eq_true (p := r.g ≠ 0) (by simpa using q1), Bool.true_and] at hA hN
    refine bB_of (fun q => hA (by rw [decide_eq_true (p := r.at_ ≠ 0) (by simpa using q)]; rfl)) fun q2 => ?_
    refine bB_of (fun q => hA (by rw [q]; simp)) fun q3 => ?_
    refine bB_of (fun q => hA (by rw [decide_eq_true (p := r.q ≠ 0) (by simpa using q)]; simp)) fun q4 => ?_
    rw [decide_eq_false (p := r.at_ ≠ 0) (by simpa using q2), q3, decide_eq_false (p := r.q ≠ 0) (by simpa using q4), Bool.false_or, Bool.false_or, Bool.false_or] at hA hN
    refine bB_of (fun q5 => ?_) fun q5 => hN (by rw [decide_eq_false (p := 0 < j) (by have := of_decide_eq_false q5; omega)]; rfl)
    have q5 := of_decide_eq_true q5
    rw [decide_eq_true (p := 0 < j) (by omega), Bool.true_and] at hA hN
    have hj1 : j - 1 < l.length := by omega
    rw [getD_in _ _ hj1] at hA hN
    rw [w64_sub1 j (by omega) (by omega), toNat_c, getD_map _ _ _ hj1]
    refine ⟨rngM _ _ hj1, ?_⟩
    generalize l[j - 1] = r' at hA hN ⊢
    simp only [Rec.c, ext_0, ext_s, ext_z, cS_c, cI_c, cB_c, cL_c, cO_c, oS_c, oI_c, oB_c, oL_c, nilC_c, toNat_c]
    exact bB_of (fun q => hA (by simpa using q)) fun q => hN (by simpa using q)
  rw [List.length_range]
  unfold f21_p16b0
  refine bB_f (stopL _) ?_
  rw [if_neg (by rw [hB]; decide)] at h
  unfold f21_p30
  refine LoopP.findS (fun j => ((j + 1 : Nat) : Int)) rfl (List.range (l.length - 1)) (conI l) (A := fun _ => K 10) (B := (List.range (l.length - 1)).any (conI l) = false) (by rw [List.length_range]; omega) (fun j hj hq _ => ?_) (fun q => by rw [List.any_eq_false]; intro x hx; rw [q x hx]; decide) (fun j hj N hA hN => ?_) fun N hB => ?_
  · rw [if_pos (List.any_eq_true.2 ⟨_, List.getElem_mem hj, hq⟩)] at h; exact h
  · rw [List.length_range] at hj
    rw [List.getElem_range] at hA hN
    unfold f21_p30b0
    have hj1 : j + 1 < l.length := by omega
    have hj0 : j < l.length := by omega
    refine bB_t (ltM _ _ hj1) ⟨rngM _ _ hj1, ?_⟩
    rw [toNat_c, getD_map _ _ _ hj1, w64_s (j + 1) (by omega), w64_sub1 (j + 1) (by omega) (by omega), Nat.add_sub_cancel, toNat_c, getD_map _ _ _ hj0]
    unfold conI at hA hN
    rw [getD_in _ _ hj1, getD_in _ _ hj0] at hA hN
    have i1 := hin _ hj1
    have i0 := rng_t (hin _ hj0)
    generalize l[j + 1] = r at hA hN i1 ⊢
    generalize l[j] = r' at hA hN i0 ⊢
    simp only [Rec.c, ext_0, ext_s, ext_z, cS_c, cI_c, cB_c, cL_c, cO_c, oS_c, oI_c, oB_c, oL_c, nilC_c, toNat_c]
    refine ⟨rngM _ _ hj0, f33_ok i1 ?_⟩
    rw [w64_in (by omega) (by omega)]
    exact bB_of (fun q => hA (by simpa using q)) fun q => hN (by simpa using q)
  rw [List.length_range]
  unfold f21_p30b0
  refine bB_f (by rw [List.length_map]; exact decide_eq_false (by omega)) ?_
  rw [if_neg (by rw [hB]; decide)] at h
  refine f36_ok hl fun m hm => ?_
  rw [hm]
  refine bB_of (fun q => ?_) fun q => ?_
  · rw [if_neg (by rw [Bool.not_eq_true'] at q; rw [q]; decide)] at h; exact h
  · rw [Bool.not_eq_false'] at q
    rw [if_pos q] at h; exact h
theorem f40_ok {a b c : Int} {K : Bool → Prop} (h : K (decide (b ≤ a) && decide (a ≤ c))) : f40 a b c K := by
  refine ⟨?_⟩
  unfold f40_d
  refine bB_of (fun q => ?_) fun q => ?_
  · have q : decide (b ≤ a) = true := q
    rw [q, Bool.true_and] at h; exact h
  · have q : decide (b ≤ a) = false := q
    rw [q, Bool.false_and] at h; exact h
theorem f25_ok {l : List Rec} {f : Bool} (hl : l.length < 2 ^ 40) {K : Int → Prop} (h : K (checkV l)) : f25 (l.map Rec.c) f K := by
  refine ⟨?_⟩
  unfold f25_d f25_p4
  unfold checkV at h
  refine LoopP.all l rng (A := K 6) (B := _) (by omega) (fun q => by rw [q] at h; exact h) (fun q => q) (fun j hj N hA hN => ?_) fun N hB => ?_
  · unfold f25_p4b0
    refine bB_t (ltM _ _ hj) ⟨rngM _ _ hj, ?_⟩
    rw [toNat_c, getD_map _ _ _ hj, w64_s j (by omega)]
    generalize l[j] = r at hA hN ⊢
    simp only [Rec.c, ext_0, ext_s, ext_z, cS_c, cI_c, cB_c, cL_c, cO_c, oS_c, oI_c, oB_c, oL_c, nilC_c, toNat_c]
    have no : ∀ {a b c : Int}, (!(decide (b ≤ a) && decide (a ≤ c))) = true → ¬ (b ≤ a ∧ a ≤ c) := fun h hc => by rw [decide_eq_true hc.1, decide_eq_true hc.2] at h; cases h
    have ye : ∀ {a b c : Int}, (!(decide (b ≤ a) && decide (a ≤ c))) = false → (b ≤ a ∧ a ≤ c) := fun h => by simpa using h
    refine f40_ok (bB_of (fun q => hA (rng_f (by have := no q; omega))) fun q1 => ?_)
    refine f40_ok (bB_of (fun q => hA (rng_f (by have := no q; omega))) fun q2 => ?_)
    refine f40_ok (bB_of (fun q => hA (rng_f (by have := no q; omega))) fun q3 => ?_)
    have q1 := ye q1
    have q2 := ye q2
    have q3 := ye q3
    exact hN (rng_i (by omega))
  unfold f25_p4b0
  refine bB_f (stopM _ _) ?_
  have hB : l.all rng = true := hB
  rw [if_pos hB] at h
  have hin : ∀ j (hj : j < l.length), rng l[j] = true := fun j hj => List.all_eq_true.1 hB _ (List.getElem_mem hj)
  unfold f25_p16
  refine LoopP.findS (fun j => (j : Int)) rfl (List.range l.length) (badI l) (A := fun _ => K 1) (B := (List.range l.length).any (badI l) = false) (by rw [List.length_range]; omega) (fun j hj hq _ => ?_) (fun q => by rw [List.any_eq_false]; intro x hx; rw [q x hx]; decide) (fun j hj N hA hN => ?_) fun N hB => ?_
  · rw [if_pos (List.any_eq_true.2 ⟨_, List.getElem_mem hj, hq⟩)] at h; exact h
  · rw [List.length_range] at hj
    rw [List.getElem_range] at hA hN
    unfold f25_p16b0
    refine bB_t (ltM _ _ hj) ⟨rngM _ _ hj, ?_⟩
    rw [toNat_c, getD_map _ _ _ hj, w64_s j (by omega)]
    unfold badI at hA hN
    rw [getD_in _ _ hj] at hA hN
    have i0 := rng_t (hin _ hj)
    generalize l[j] = r at hA hN i0 ⊢
    simp only [Rec.c, ext_0, ext_s, ext_z, cS_c, cI_c, cB_c, cL_c, cO_c, oS_c, oI_c, oB_c, oL_c, nilC_c, toNat_c]
    refine bB_of (fun q1 => ?_) fun q1 => hN (by rw [decide_eq_false (p := r.g ≠ 0) (by have := of_decide_eq_false q1; omega)]; rfl)
    rw [decide_eq_true (p := r.g ≠ 0) (by have := of_decide_eq_true q1; omega), Bool.true_and] at hA hN
    refine bB_of (fun q => hA (by rw [decide_eq_true (p := r.at_ ≠ 0) (by simpa using q)]; rfl)) fun q2 => ?_
    refine bB_of (fun q => hA (by rw [q]; simp)) fun q3 => ?_
    refine bB_of (fun q => hA (by rw [decide_eq_true (p := r.q ≠ 0) (by simpa using q)]; simp)) fun q4 => ?_
    rw [decide_eq_false (p := r.at_ ≠ 0) (by simpa using q2), q3, decide_eq_false (p := r.q ≠ 0) (by simpa using q4), Bool.false_or, Bool.false_or, Bool.false_or] at hA hN
    refine bB_of (fun q5 => ?_) fun q5 => hN (by rw [decide_eq_false (p := 0 < j) (by have := of_decide_eq_false q5; omega)]; rfl)
    have q5 := of_decide_eq_true q5
    rw [decide_eq_true (p := 0 < j) (by omega), Bool.true_and] at hA hN
    have hj1 : j - 1 < l.length := by omega
    rw [getD_in _ _ hj1] at hA hN
    rw [w64_sub1 j (by omega) (by omega), toNat_c, getD_map _ _ _ hj1]
    refine ⟨rngM _ _ hj1, ?_⟩
    have i1 := rng_t (hin _ hj1)
    generalize l[j - 1] = r' at hA hN i1 ⊢
    simp only [Rec.c, ext_0, ext_s, ext_z, cS_c, cI_c, cB_c, cL_c, cO_c, oS_c, oI_c, oB_c, oL_c, nilC_c, toNat_c]
    exact bB_of (fun q => hA (decide_eq_true (by have := of_decide_eq_true q; omega))) fun q => hN (decide_eq_false (by have := of_decide_eq_false q; omega))
  rw [List.length_range]
  unfold f25_p16b0
  refine bB_f (stopM _ _) ?_
  rw [if_neg (by rw [hB]; decide)] at h
  unfold f25_p28
  refine LoopP.findS (fun j => ((j + 1 : Nat) : Int)) rfl (List.range (l.length - 1)) (conI l) (A := fun _ => K 10) (B := (List.range (l.length - 1)).any (conI l) = false) (by rw [List.length_range]; omega) (fun j hj hq _ => ?_) (fun q => by rw [List.any_eq_false]; intro x hx; rw [q x hx]; decide) (fun j hj N hA hN => ?_) fun N hB => ?_
  · rw [if_pos (List.any_eq_true.2 ⟨_, List.getElem_mem hj, hq⟩)] at h; exact h
  · rw [List.length_range] at hj
    rw [List.getElem_range] at hA hN
    unfold f25_p28b0
    have hj1 : j + 1 < l.length := by omega
    have hj0 : j < l.length := by omega
    refine bB_t (ltM _ _ hj1) ⟨rngM _ _ hj1, ?_⟩
    rw [toNat_c, getD_map _ _ _ hj1, w64_s (j + 1) (by omega), w64_sub1 (j + 1) (by omega) (by omega), Nat.add_sub_cancel, toNat_c, getD_map _ _ _ hj0]
    unfold conI at hA hN
    rw [getD_in _ _ hj1, getD_in _ _ hj0] at hA hN
    have i1 := hin _ hj1
    have i0 := rng_t (hin _ hj0)
    generalize l[j + 1] = r at hA hN i1 ⊢
    generalize l[j] = r' at hA hN i0 ⊢
    simp only [Rec.c, ext_0, ext_s, ext_z, cS_c, cI_c, cB_c, cL_c, cO_c, oS_c, oI_c, oB_c, oL_c, nilC_c, toNat_c]
    refine ⟨rngM _ _ hj0, f22_ok i1 ?_⟩
    rw [w64_in (by omega) (by omega)]
    exact bB_of (fun q => hA (by simpa using q)) fun q => hN (by simpa using q)
  rw [List.length_range]
  unfold f25_p28b0
  refine bB_f (by rw [List.length_map]; exact decide_eq_false (by omega)) ?_
  rw [if_neg (by rw [hB]; decide)] at h
  refine f39_ok hl (bB_of (fun q => ?_) fun q => ?_)
  · rw [if_neg (by rw [Bool.not_eq_true'] at q; rw [q]; decide)] at h; exact h
  · rw [Bool.not_eq_false'] at q
    rw [if_pos q] at h; exact h
def smallV (l : List Rec) : Bool := decide (l.length ≤ 40) && !(l.any fun r => decide (r.no > 1000) && decide (r.no ≤ 1000000000))
theorem f24_ok {l : List Rec} {f : Bool} {K : Bool → Prop} (h : K (smallV l)) : f24 (l.map Rec.c) f K := by
  refine ⟨?_⟩
  unfold f24_d
  unfold smallV at h
  rw [List.length_map]
  refine bB_of (fun q => ?_) fun q => ?_
  · rw [decide_eq_false (p := l.length ≤ 40) (by have := of_decide_eq_true q; omega)] at h; exact h
  have q := of_decide_eq_false q
  rw [decide_eq_true (p := l.length ≤ 40) (by omega), Bool.true_and] at h
  unfold f24_p8
  refine LoopP.any l (fun r => decide (r.no > 1000) && decide (r.no ≤ 1000000000)) (A := K false) (B := K true) (by omega) (fun q => by rw [q] at h; exact h) (fun q => by rw [q] at h; exact h) (fun j hj N hA hN => ?_) fun N hB => ?_
  · unfold f24_p8b0
    refine bB_t (ltM _ _ hj) ⟨rngM _ _ hj, ?_⟩
    rw [toNat_c, getD_map _ _ _ hj, w64_s j (by omega)]
    generalize l[j] = r at hA hN ⊢
    simp only [Rec.c, ext_0, ext_s, ext_z, cS_c, cI_c, cB_c, cL_c, cO_c, oS_c, oI_c, oB_c, oL_c, nilC_c, toNat_c]
    refine bB_of (fun q1 => ⟨rngM _ _ hj, bB_of (fun q2 => hA (by rw [q1, q2]; rfl)) fun q2 => hN (by rw [q2]; simp)⟩) fun q1 => hN (by rw [q1]; rfl)
  · unfold f24_p8b0
    exact bB_f (stopM _ _) hB
theorem f19_ok {l : List Rec} {f g : Bool} (hl : l.length < 2 ^ 40) {K : Bool → Prop} (h : K true) : f19 (l.map Rec.c) f (l.map Rec.c) g K := by
  refine ⟨?_⟩
  unfold f19_d
  refine bB_f (by simp) ?_
  unfold f19_p8
  refine LoopP.seq l.length (fun j => (j : Int)) rfl (by omega) (fun j hj N hN => ?_) fun N => ?_
  · unfold f19_p8b0
    refine bB_t (ltM _ _ hj) ⟨rngM _ _ hj, ?_⟩
    rw [toNat_c, getD_map _ _ _ hj, w64_s j (by omega)]
    generalize l[j] = u
    simp only [Rec.c, ext_0, ext_s, ext_z, cS_c, cI_c, cB_c, cL_c, cO_c, oS_c, oI_c, oB_c, oL_c, nilC_c, toNat_c]
    exact ⟨rngM _ _ hj, bB_f (by simp) hN⟩
  · unfold f19_p8b0
    exact bB_f (stopM _ _) h
end Go.Eng.N
