/- Leadlag, pure, 1: machines and their order. -/
import Derived.Test.YtbecejhjdagkdaaST
import Derived.Test.YtbecejhjdagkdaaFn1
set_option linter.unusedVariables false
set_option linter.unusedSimpArgs false
namespace Go.Eng.N
open Go Go.Eng
structure Un where
  run : Int
  on : Bool
  fl : Bool
  deriving DecidableEq
def Un.c (u : Un) : List PC := [pI u.run, pB u.on, pB u.fl]
theorem Un_len (u : Un) : u.c.length = 3 := rfl
/-- Does one machine come before another? -/
def ltU (x y : Un) : Bool := if x.fl = true then false else if y.fl = true then true else decide (x.run < y.run)
theorem ltU_o : Cmp ltU := by
  refine ⟨fun x y h => ?_, fun x y z h1 h2 => ?_⟩
  · unfold ltU at h ⊢
    cases hx : x.fl <;> cases hy : y.fl <;> simp [hx, hy] at h ⊢
    omega
  · unfold ltU at h1 h2 ⊢
    cases hx : x.fl <;> cases hy : y.fl <;> cases hz : z.fl <;> simp [hx, hy, hz] at h1 h2 ⊢
    omega
abbrev Ix (us : List Un) := Fin us.length
def Ix.c {us : List Un} (x : Ix us) : List PC := [pI (x.1 : Int)]
theorem Ix_len {us : List Un} (x : Ix us) : (Ix.c x).length = 1 := rfl
def ltI (us : List Un) (x y : Ix us) : Bool := ltU us[x.1] us[y.1]
theorem ltI_o {us : List Un} : Cmp (ltI us) := ⟨fun x y h => ltU_o.asym _ _ h, fun x y z h1 h2 => ltU_o.trans _ _ _ h1 h2⟩
theorem _root_.Go.Eng.SlP.atP {i n : Nat} {es : List (List PC)} {α : Type} {c : α → List PC} {l : List α} (h : SlP i n es (l.map c)) {j : Nat} (hj : j < l.length) : List.getD es (i + j) [] = c l[j] ∧ j < n ∧ i + j < es.length := by
  have h1 := h.n
  have h2 := h.len
  rw [List.length_map] at h1
  refine ⟨?_, by omega, by omega⟩
  rw [h.at (by rw [List.length_map]; exact hj), List.getElem_map]
theorem f37_ok {a b : Int} {K : Int → Prop} (h : ∀ m : Int, decide (m < 0) = decide (a < b) → K m) : f37 a b K := by
  refine ⟨?_⟩
  unfold f37_d
  refine ⟨?_⟩
  unfold f47_d
  refine ⟨?_⟩
  unfold f47_d
  refine bB_f (by simp) (bB_f (by simp) (bB_of (fun h1 => h _ ?_) fun h1 => bB_of (fun h2 => h _ ?_) fun h2 => h _ ?_))
  · rw [h1]; rfl
  · rw [h1]; rfl
  · rw [h1]; rfl
/-- The comparison of the program. -/
theorem cmpU {x y : Un} {K : Int → Prop} (h : ∀ m : Int, decide (m < 0) = ltU x y → K m) :
    (bB x.fl (bB y.fl (K 0) (bB x.fl (K 1) (bB y.fl (K (-1)) (f37 x.run y.run (fun n20 => K n20))))) (bB x.fl (K 1) (bB y.fl (K (-1)) (f37 x.run y.run (fun n21 => K n21))))) ∧ (bB x.fl (bB y.fl (K 0) (bB x.fl (K 1) (bB y.fl (K (-1)) (f37 x.run y.run (fun n22 => K n22))))) (bB x.fl (K 1) (bB y.fl (K (-1)) (f37 x.run y.run (fun n23 => K n23))))) := by
  unfold ltU at h
  cases hx : x.fl <;> cases hy : y.fl <;> simp only [hx, hy, bB] at h ⊢
  · simp only [Bool.false_eq_true, if_false] at h
    exact ⟨f37_ok h, f37_ok h⟩
  · exact ⟨h _ rfl, h _ rfl⟩
  · exact ⟨h _ rfl, h _ rfl⟩
  · exact ⟨h _ rfl, h _ rfl⟩
theorem f36_ok {us : List Un} {ui un : Nat} {ue : List (List PC)} (hu : SlP ui un ue (us.map Un.c)) {st tu : Int} {x y : Ix us} {K : Int → Nat → Nat → Int → Int → List (List PC) → Prop} (h : ∀ m : Int, decide (m < 0) = ltI us x y → K m ui un st tu ue) : f36 (x.1 : Int) (y.1 : Int) ui un st tu ue K := by
  refine ⟨?_⟩
  unfold f36_d
  have a1 := hu.atP x.2
  have a2 := hu.atP y.2
  have h1 := a1.2.1
  have h2 := a2.2.1
  refine ⟨by omega, ?_⟩
  rw [toNat_c, a1.1]
  simp only [Un.c, ext_0, ext_s, ext_z, cS_c, cI_c, cB_c, cL_c, cO_c, oS_c, oI_c, oB_c, oL_c, nilC_c, toNat_c]
  refine ⟨by omega, ?_⟩
  rw [a2.1]
  simp only [Un.c, ext_0, ext_s, ext_z, cS_c, cI_c, cB_c, cL_c, cO_c, oS_c, oI_c, oB_c, oL_c, nilC_c, toNat_c]
  exact cmpU (x := us[x.1]) (y := us[y.1]) (K := fun m => K m ui un st tu ue) h
theorem f36_1_ok {us : List Un} {ue : List (List PC)} (hu : ue = us.map Un.c) {full : Bool} {st tu : Int} {x y : Ix us} {K : Int → List (List PC) → Bool → Int → Int → Prop} (h : ∀ m : Int, decide (m < 0) = ltI us x y → K m ue full st tu) : f36_1 (x.1 : Int) (y.1 : Int) ue full st tu K := by
  subst hu
  refine ⟨?_⟩
  unfold f36_1_d
  refine ⟨rngM _ _ x.2, ?_⟩
  rw [toNat_c, getD_map _ _ _ x.2]
  simp only [Un.c, ext_0, ext_s, ext_z, cS_c, cI_c, cB_c, cL_c, cO_c, oS_c, oI_c, oB_c, oL_c, nilC_c, toNat_c]
  refine ⟨rngM _ _ y.2, ?_⟩
  rw [getD_map _ _ _ y.2]
  simp only [Un.c, ext_0, ext_s, ext_z, cS_c, cI_c, cB_c, cL_c, cO_c, oS_c, oI_c, oB_c, oL_c, nilC_c, toNat_c]
  exact cmpU (x := us[x.1]) (y := us[y.1]) (K := fun m => K m (us.map Un.c) full st tu) h
/-- The comparison of the reference: ties go by the number. -/
theorem f38_ok {us : List Un} {full : Bool} {x y : Ix us} (hxy : y.1 < x.1) {K : Bool → Prop} (h : K (ltI us x y)) : f38 (us.map Un.c) full (x.1 : Int) (y.1 : Int) K := by
  refine ⟨?_⟩
  unfold f38_d
  refine ⟨rngM _ _ x.2, ?_⟩
  rw [toNat_c, getD_map _ _ _ x.2]
  simp only [Un.c, ext_0, ext_s, ext_z, cS_c, cI_c, cB_c, cL_c, cO_c, oS_c, oI_c, oB_c, oL_c, nilC_c, toNat_c]
  refine ⟨rngM _ _ y.2, ?_⟩
  rw [getD_map _ _ _ y.2]
  simp only [Un.c, ext_0, ext_s, ext_z, cS_c, cI_c, cB_c, cL_c, cO_c, oS_c, oI_c, oB_c, oL_c, nilC_c, toNat_c]
  unfold ltI ltU at h
  have hn : decide ((x.1 : Int) < (y.1 : Int)) = false := decide_eq_false (by omega)
  cases hx : us[x.1].fl <;> cases hy : us[y.1].fl <;> simp only [hx, hy, bB] at h ⊢ <;> simp only [beq_self_eq_true, Bool.not_true, Bool.not_false, hn] at h ⊢
  · simp only [Bool.false_eq_true, if_false] at h
    by_cases he : us[x.1].run = us[y.1].run
    · have : decide (us[x.1].run < us[y.1].run) = false := decide_eq_false (by omega)
      rw [this] at h
      have e2 : (us[x.1].run != us[y.1].run) = false := by simp [he]
      rw [e2]
      exact ⟨h, h⟩
    · have e2 : (us[x.1].run != us[y.1].run) = true := by simp [he]
      rw [e2]
      exact ⟨h, h⟩
  · exact ⟨h, h⟩
  · exact ⟨h, h⟩
  · exact ⟨h, h⟩
end Go.Eng.N
