/- Leadlag, pure, 9: New, Spread, Short, likeness of numbers. -/
import Derived.Test.YtbecejhjdagkdaaUJ
import Derived.Test.YtbecejhjdagkdaaFn2
import Derived.Test.YtbecejhjdagkdaaFn3
set_option linter.unusedVariables false
set_option linter.unusedSimpArgs false
namespace Go.Eng.N
open Go Go.Eng
def newE (n now : Int) : Ss × Bool × Int :=
  if n < 1 ∨ 16 < n then (⟨[], 0, 0⟩, true, 1) else if okT now = true then (⟨List.replicate n.toNat Un.no, -1, now⟩, false, 0) else (⟨[], 0, 0⟩, true, 6)
theorem newE_len (n now : Int) : (newE n now).1.us.length < 2 ^ 40 := by
  unfold newE
  split
  · simp
  · split
    · simp; omega
    · simp
theorem no_c (n : Nat) : List.replicate n [pI 0, pB false, pB false] = (List.replicate n Un.no).map Un.c := by rw [List.map_replicate]; rfl
section
variable {n now : Int} {K : List (List PC) → Bool → Int → Int → Int → Prop}
theorem f10_ok (h : ∀ r, r = newE n now → K (r.1.us.map Un.c) r.2.1 r.1.st r.1.tu r.2.2) : f10 n now K := by
  refine ⟨?_⟩
  unfold f10_d
  unfold newE at h
  refine bB_of (fun h1 => ?_) fun h1 => bB_of (fun h2 => ?_) fun h2 => ?_
  · rw [if_pos (.inl (of_decide_eq_true h1))] at h
    exact h _ rfl
  · rw [if_pos (.inr (of_decide_eq_true h2))] at h
    exact h _ rfl
  · have h1 := of_decide_eq_false h1
    have h2 := of_decide_eq_false h2
    rw [if_neg (by omega)] at h
    unfold f10_p7
    refine f30_ok (bB_of (fun h3 => ?_) fun h3 => ?_)
    · rw [Bool.not_eq_true'] at h3
      rw [if_neg (by rw [h3]; decide)] at h
      exact h _ rfl
    · rw [Bool.not_eq_false'] at h3
      rw [if_pos h3] at h
      have := h _ rfl
      dsimp only at this
      rw [← no_c] at this
      refine ⟨by omega, ?_⟩
      dsimp only
      rw [List.drop_zero, List.take_of_length_le (by simp)]
      exact this
theorem f11_ok (h : ∀ r, r = newE n now → K (r.1.us.map Un.c) r.2.1 r.1.st r.1.tu r.2.2) : f11 n now K := by
  refine ⟨?_⟩
  unfold f11_d
  unfold newE at h
  refine bB_of (fun h1 => ?_) fun h1 => bB_of (fun h2 => ?_) fun h2 => ?_
  · rw [if_pos (.inl (of_decide_eq_true h1))] at h
    exact h _ rfl
  · rw [if_pos (.inr (of_decide_eq_true h2))] at h
    exact h _ rfl
  · have h1 := of_decide_eq_false h1
    have h2 := of_decide_eq_false h2
    rw [if_neg (by omega)] at h
    unfold f11_p7
    have six : okT now = false → K [] true 0 0 6 := fun h3 => by
      rw [if_neg (by rw [h3]; decide)] at h
      exact h _ rfl
    refine bB_of (fun h3 => six (by unfold okT; have := of_decide_eq_true h3; rw [decide_eq_false (p := 0 ≤ now) (by omega)]; rfl)) fun h3 => ?_
    refine bB_of (fun h4 => six (by unfold okT; have := of_decide_eq_true h4; rw [decide_eq_false (p := now ≤ 6311433599) (by omega)]; simp)) fun h4 => ?_
    have h3 := of_decide_eq_false h3
    have h4 := of_decide_eq_false h4
    have e : okT now = true := by unfold okT; rw [decide_eq_true (p := 0 ≤ now) (by omega), decide_eq_true (p := now ≤ 6311433599) (by omega)]; rfl
    rw [if_pos e] at h
    have := h _ rfl
    dsimp only at this
    rw [← no_c] at this
    refine ⟨by omega, ?_⟩
    dsimp only
    rw [List.drop_zero, List.take_of_length_le (by simp)]
    exact this
end
/-! ### The spread -/
def hiL : List Int → Int
  | [] => 0
  | x :: t => t.foldl (fun m x => if x > m then x else m) x
def loL : List Int → Int
  | [] => 0
  | x :: t => t.foldl (fun m x => if x < m then x else m) x
theorem hiL_s : ∀ {l : List Int} {x : Int}, l ≠ [] → hiL (l ++ [x]) = if x > hiL l then x else hiL l
  | [], _, h => absurd rfl h
  | y :: t, x, _ => by show List.foldl _ y (t ++ [x]) = _; rw [List.foldl_append]; rfl
theorem loL_s : ∀ {l : List Int} {x : Int}, l ≠ [] → loL (l ++ [x]) = if x < loL l then x else loL l
  | [], _, h => absurd rfl h
  | y :: t, x, _ => by show List.foldl _ y (t ++ [x]) = _; rw [List.foldl_append]; rfl
theorem f31_ok {l : List Int} {f : Bool} (h0 : l ≠ []) (hl : l.length < 2 ^ 40) {K : Int → Prop} (h : K (hiL l)) : f31 (l.map nic) f K := by
  refine ⟨?_⟩
  unfold f31_d
  have hp : 0 < l.length := List.length_pos_iff.2 h0
  rw [List.length_map]
  refine bB_f (decide_eq_false (by omega)) ?_
  unfold f31_p7
  refine ⟨by rw [List.length_map]; omega, ?_⟩
  rw [getD_map _ _ _ hp]
  simp only [nic, ext_0, ext_s, ext_z, cS_c, cI_c, cB_c, cL_c, cO_c, oS_c, oI_c, oB_c, oL_c, nilC_c, toNat_c]
  unfold f31_p10
  change LoopP _ (l[0], (((1 : Nat) : Int)))
  have e0 : l[0] = hiL (l.take 1) := by
    cases l with
    | nil => exact absurd rfl h0
    | cons x t => rfl
  rw [e0]
  refine LoopP.inv l.length (fun j x => x = (hiL (l.take j), (j : Int)) ∧ 1 ≤ j) 1 ⟨rfl, Nat.le_refl _⟩ (by omega) (by omega) ?_ ?_
  · rintro j x hk hj ⟨rfl, _⟩ N hN
    unfold f31_p10b0
    dsimp only
    refine bB_t (ltM (fun n => [pI n]) _ hj) ⟨rngM (fun n => [pI n]) _ hj, ?_⟩
    rw [toNat_c, getD_map _ _ _ hj, w64_s j (by omega)]
    simp only [nic, ext_0, ext_s, ext_z, cS_c, cI_c, cB_c, cL_c, cO_c, oS_c, oI_c, oB_c, oL_c, nilC_c, toNat_c]
    refine hN _ ⟨?_, by omega⟩
    rw [List.take_succ_eq_append_getElem hj, hiL_s (by intro e; have := congrArg List.length e; rw [List.length_take, List.length_nil] at this; omega)]
  · rintro x ⟨rfl, _⟩ N
    unfold f31_p10b0
    dsimp only
    rw [List.take_of_length_le (Nat.le_refl _)]
    exact bB_f (stopM (fun n => [pI n]) _) h
theorem f32_ok {l : List Int} {f : Bool} (h0 : l ≠ []) (hl : l.length < 2 ^ 40) {K : Int → Prop} (h : K (loL l)) : f32 (l.map nic) f K := by
  refine ⟨?_⟩
  unfold f32_d
  have hp : 0 < l.length := List.length_pos_iff.2 h0
  rw [List.length_map]
  refine bB_f (decide_eq_false (by omega)) ?_
  unfold f32_p7
  refine ⟨by rw [List.length_map]; omega, ?_⟩
  rw [getD_map _ _ _ hp]
  simp only [nic, ext_0, ext_s, ext_z, cS_c, cI_c, cB_c, cL_c, cO_c, oS_c, oI_c, oB_c, oL_c, nilC_c, toNat_c]
  unfold f32_p10
  change LoopP _ (l[0], (((1 : Nat) : Int)))
  have e0 : l[0] = loL (l.take 1) := by
    cases l with
    | nil => exact absurd rfl h0
    | cons x t => rfl
  rw [e0]
  refine LoopP.inv l.length (fun j x => x = (loL (l.take j), (j : Int)) ∧ 1 ≤ j) 1 ⟨rfl, Nat.le_refl _⟩ (by omega) (by omega) ?_ ?_
  · rintro j x hk hj ⟨rfl, _⟩ N hN
    unfold f32_p10b0
    dsimp only
    refine bB_t (ltM (fun n => [pI n]) _ hj) ⟨rngM (fun n => [pI n]) _ hj, ?_⟩
    rw [toNat_c, getD_map _ _ _ hj, w64_s j (by omega)]
    simp only [nic, ext_0, ext_s, ext_z, cS_c, cI_c, cB_c, cL_c, cO_c, oS_c, oI_c, oB_c, oL_c, nilC_c, toNat_c]
    refine hN _ ⟨?_, by omega⟩
    rw [List.take_succ_eq_append_getElem hj, loL_s (by intro e; have := congrArg List.length e; rw [List.length_take, List.length_nil] at this; omega)]
  · rintro x ⟨rfl, _⟩ N
    unfold f32_p10b0
    dsimp only
    rw [List.take_of_length_le (Nat.le_refl _)]
    exact bB_f (stopM (fun n => [pI n]) _) h
def rsL (us : List Un) : List Int := (us.filter fun u => !u.fl).map Un.run
theorem rsL_s (us : List Un) {j : Nat} (hj : j < us.length) : rsL (us.take (j + 1)) = if us[j].fl = true then rsL (us.take j) else rsL (us.take j) ++ [us[j].run] := by
  unfold rsL
  rw [List.take_succ_eq_append_getElem hj, List.filter_append, List.map_append]
  cases h : us[j].fl <;> simp [h]
theorem rsL_le (us : List Un) : (rsL us).length ≤ us.length := by unfold rsL; rw [List.length_map]; exact List.length_filter_le _ _
def sprV (us : List Un) : Int × Int := if rsL us = [] then (0, 9) else (w64 (hiL (rsL us) - loL (rsL us)), 0)
theorem f12_ok {us : List Un} {f : Bool} (hl : us.length < 2 ^ 40) {st tu : Int} {K : Int → Int → Prop} (h : K (sprV us).1 (sprV us).2) : f12 (us.map Un.c) f st tu K := by
  refine ⟨?_⟩
  unfold f12_d f12_p6
  rw [List.length_map]
  refine LoopP.inv us.length (fun j x => x.2.2.1 = (j : Int) ∧ SlR x.1 x.2.1 x.2.2.2 ((rsL (us.take j)).map nic)) 0 ⟨rfl, SlR.nil⟩ (Nat.zero_le _) (by omega) ?_ ?_
  · rintro j ⟨i, n, x, es⟩ _ hj ⟨rfl, hr⟩ N hN
    have hr : SlR i n es _ := hr
    have hnn := hr.n
    have hrl := rsL_le (us.take j)
    rw [List.length_take] at hrl
    rw [List.length_map] at hnn
    have hs := rsL_s us hj
    unfold f12_p6b0
    dsimp only
    refine bB_t (ltL hj) ⟨rngM _ _ hj, ?_⟩
    rw [toNat_c, getD_map _ _ _ hj, w64_s j (by omega)]
    generalize us[j] = u at hs ⊢
    simp only [Un.c, ext_0, ext_s, ext_z, cS_c, cI_c, cB_c, cL_c, cO_c, oS_c, oI_c, oB_c, oL_c, nilC_c, toNat_c]
    refine bB_of (fun h1 => ⟨Nat.le_of_eq hr.len, by omega, by omega, hN _ ⟨rfl, ?_⟩⟩) fun h1 => hN _ ⟨rfl, ?_⟩
    · rw [Bool.not_eq_true'] at h1
      rw [hs, if_neg (by rw [h1]; decide), List.map_append]
      exact hr.push _
    · rw [Bool.not_eq_false'] at h1
      rw [hs, if_pos h1]
      exact hr
  · rintro ⟨i, n, x, es⟩ ⟨rfl, hr⟩ N
    have hr : SlR i n es _ := hr
    rw [List.take_of_length_le (Nat.le_refl _)] at hr
    have hnn := hr.n
    rw [List.length_map] at hnn
    have hrl := rsL_le us
    unfold f12_p6b0
    dsimp only
    refine bB_f (stopL _) ?_
    unfold sprV at h
    refine bB_of (fun h1 => ?_) fun h1 => ?_
    · have : rsL us = [] := List.eq_nil_of_length_eq_zero (by simp at h1; omega)
      rw [if_pos this] at h
      exact h
    · have h2 : rsL us ≠ [] := by intro e; rw [e] at hnn; subst hnn; simp at h1
      rw [if_neg h2] at h
      rw [hr.take]
      exact f31_ok h2 (by omega) (f32_ok h2 (by omega) h)
theorem f13_p19_sp {a1 a2 a3 a4 : Int} {e1 : List (List PC)} {f : Bool} {b1 b2 : Bool} {rs : List Int} (hn : rs.length < 2 ^ 40) {r : Int} {K : Int → Int → Prop} (h : K (hiL (rs ++ [r])) ((rs ++ [r]).length : Nat)) :
    f13_p19 a1 (hiL rs) ((rs.length : Nat) : Int) a2 e1 f a3 a4 r b1 b2 K := by
  unfold f13_p19
  rw [w64_s _ (by omega)]
  rw [show (rs ++ [r]).length = rs.length + 1 by simp] at h
  refine bB_of (fun h1 => ?_) fun h1 => ?_
  · have : rs = [] := by simpa using h1
    subst this
    exact h
  · have h2 : rs ≠ [] := by rintro rfl; simp at h1
    rw [hiL_s h2] at h
    refine bB_of (fun h3 => ?_) fun h3 => ?_
    · rw [if_pos (of_decide_eq_true h3)] at h; exact h
    · rw [if_neg (of_decide_eq_false h3)] at h; exact h
theorem f13_ok {us : List Un} {f : Bool} (hl : us.length < 2 ^ 40) {st tu : Int} {K : Int → Int → Prop} (h : K (sprV us).1 (sprV us).2) : f13 (us.map Un.c) f st tu K := by
  refine ⟨?_⟩
  unfold f13_d f13_p6
  refine LoopP.inv us.length (fun j x => x = (loL (rsL (us.take j)), hiL (rsL (us.take j)), (((rsL (us.take j)).length : Nat) : Int), (j : Int))) 0 rfl (Nat.zero_le _) (by omega) ?_ ?_
  · rintro j _ _ hj rfl N hN
    have hrl := rsL_le (us.take j)
    rw [List.length_take] at hrl
    have hs := rsL_s us hj
    unfold f13_p6b0
    dsimp only
    refine bB_t (ltM _ _ hj) ⟨rngM _ _ hj, ?_⟩
    rw [toNat_c, getD_map _ _ _ hj, w64_s j (by omega)]
    generalize us[j] = u at hs ⊢
    simp only [Un.c, ext_0, ext_s, ext_z, cS_c, cI_c, cB_c, cL_c, cO_c, oS_c, oI_c, oB_c, oL_c, nilC_c, toNat_c]
    refine bB_of (fun h1 => hN _ ?_) fun h1 => ?_
    · rw [hs, if_pos h1]
    · rw [if_neg (by rw [h1]; decide)] at hs
      rw [hs] at hN
      refine bB_of (fun h2 => ?_) fun h2 => ?_
      · have : rsL (us.take j) = [] := List.eq_nil_of_length_eq_zero (by simp at h2; simp [h2])
        refine f13_p19_sp (by omega) (hN _ ?_)
        rw [this]; rfl
      · have h3 : rsL (us.take j) ≠ [] := by intro e; rw [e] at h2; simp at h2
        refine bB_of (fun h4 => ?_) fun h4 => ?_
        · refine f13_p19_sp (by omega) (hN _ ?_)
          rw [loL_s h3, if_pos (of_decide_eq_true h4)]
        · refine f13_p19_sp (by omega) (hN _ ?_)
          rw [loL_s h3, if_neg (of_decide_eq_false h4)]
  · rintro _ rfl N
    unfold f13_p6b0
    dsimp only
    rw [List.take_of_length_le (Nat.le_refl _)]
    refine bB_f (stopM _ _) ?_
    unfold sprV at h
    refine bB_of (fun h1 => ?_) fun h1 => ?_
    · have : rsL us = [] := List.eq_nil_of_length_eq_zero (by simp at h1; simp [h1])
      rw [if_pos this] at h
      exact h
    · have h2 : rsL us ≠ [] := by intro e; rw [e] at h1; simp at h1
      rw [if_neg h2] at h
      exact h
/-! ### Short, likeness -/
def shoV (n : Int) (us : List Un) : Int := if w64 (n - ((cntO us : Nat) : Int)) > 0 then w64 (n - ((cntO us : Nat) : Int)) else 0
theorem f24_ok {us : List Un} {f : Bool} (hl : us.length < 2 ^ 40) {st tu n : Int} {K : Int → Prop} (h : K (shoV n us)) : f24 (us.map Un.c) f st tu n K := ⟨f39_1_ok hl h⟩
theorem f25_ok {us : List Un} {f : Bool} (hl : us.length < 2 ^ 40) {st tu n : Int} {K : Int → Prop} (h : K (shoV n us)) : f25 (us.map Un.c) f st tu n K := by
  refine ⟨?_⟩
  unfold f25_d
  exact f23_1_ok hl fun i es hr => h
theorem f19_ok {l : List Nat} {f g : Bool} (hl : l.length < 2 ^ 40) {K : Bool → Prop} (h : K true) : f19 (l.map ixc) f (l.map ixc) g K := by
  refine ⟨?_⟩
  unfold f19_d
  refine bB_f (by simp) ?_
  unfold f19_p8
  refine LoopP.seq l.length (fun j => (j : Int)) rfl (by omega) (fun j hj N hN => ?_) fun N => ?_
  · unfold f19_p8b0
    refine bB_t (ltM _ _ hj) ⟨rngM _ _ hj, ?_⟩
    rw [toNat_c, getD_map _ _ _ hj, w64_s j (by omega)]
    generalize l[j] = u
    simp only [ixc, ext_0, ext_s, ext_z, cS_c, cI_c, cB_c, cL_c, cO_c, oS_c, oI_c, oB_c, oL_c, nilC_c, toNat_c]
    exact ⟨rngM _ _ hj, bB_f (by simp) hN⟩
  · unfold f19_p8b0
    exact bB_f (stopM _ _) h
end Go.Eng.N
