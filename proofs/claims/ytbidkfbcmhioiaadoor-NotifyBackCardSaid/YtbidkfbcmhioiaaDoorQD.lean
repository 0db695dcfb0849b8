/- Notify, pure: the reader of tokens, 4: the head of a class. -/
import Derived.Test.YtbidkfbcmhioiaaDoorQC
import Derived.Test.YtbidkfbcmhioiaaDoorFn2
set_option linter.unusedVariables false
set_option linter.unusedSimpArgs false
namespace Go.Eng.N
open Go Go.Eng
section
variable {ts : List Tk} {s : St} {ws : List ByteArray} {e : ByteArray}
/-! ### A reader that has failed stays so -/
theorem takeS_dead (h : s.code ≠ 0) (k : Int) (w : ByteArray) : takeS ts k w s = (Tk.no, s) := by unfold takeS; rw [if_pos h]
theorem nameS_dead (h : s.code ≠ 0) : nameS ts s = (emp, s) := by
  unfold nameS
  rw [takeS_dead h, if_neg (fun hc => h hc.1)]; rfl
theorem setS_dead (h : s.code ≠ 0) : setS ws e ts s = (0, s) := by unfold setS; rw [if_pos h]
theorem failS_dead (h : s.code ≠ 0) (c : Int) (p : Nat) : failS c p s = s := by unfold failS; rw [if_pos h]
theorem failS_ok (h : s.code = 0) (c : Int) (p : Nat) : failS c p s = ⟨s.i, c, p⟩ := by unfold failS; rw [if_neg (by simpa using h)]
theorem exp_code {i : Nat} {w : ByteArray} : (expV ts i w).1 = 0 ∨ (expV ts i w).1 = 2 ∨ (expV ts i w).1 = 4 := by
  unfold expV; split
  · exact Or.inr (Or.inl rfl)
  · split
    · exact Or.inr (Or.inr rfl)
    · exact Or.inl rfl
theorem takeS_0 {i : Nat} {k : Int} {w : ByteArray} : takeS ts k w ⟨i, 0, 0⟩ = if isT ts k w ⟨i, 0, 0⟩ = true then (ts.getD i Tk.no, ⟨i + 1, 0, 0⟩) else (Tk.no, ⟨i, 2, i⟩) := by
  unfold takeS
  exact if_neg (fun hc => hc rfl)
theorem expV_f {i : Nat} {w : ByteArray} (h : isT ts 1 w ⟨i, 0, 0⟩ = false) : expV ts i w = (2, i) := by unfold expV; exact if_pos h
theorem expV_t {i : Nat} {w : ByteArray} (h : isT ts 1 w ⟨i, 0, 0⟩ = true) (h2 : w ≠ emp ∨ nameB (ts.getD i Tk.no).tx = true) : expV ts i w = (0, 0) := by
  unfold expV
  rw [if_neg (by rw [h]; decide), if_neg]
  rintro ⟨a, b⟩
  rcases h2 with h2 | h2
  · exact h2 a
  · rw [h2] at b; cases b
theorem expV_n {i : Nat} (h : isT ts 1 emp ⟨i, 0, 0⟩ = true) (h2 : nameB (ts.getD i Tk.no).tx = false) : expV ts i emp = (4, i) := by
  unfold expV
  rw [if_neg (by rw [h]; decide), if_pos ⟨rfl, h2⟩]
/-- A word that must be there. -/
theorem take_exp {i : Nat} {w : ByteArray} (hw : w ≠ emp) : takeS ts 1 w ⟨i, 0, 0⟩ = if (expV ts i w).1 = 0 then (ts.getD i Tk.no, ⟨i + 1, 0, 0⟩) else (Tk.no, ⟨i, (expV ts i w).1, (expV ts i w).2⟩) := by
  rw [takeS_0]
  cases h : isT ts 1 w ⟨i, 0, 0⟩ with
  | true => rw [if_pos rfl, expV_t h (Or.inl hw), if_pos rfl]
  | false => rw [if_neg (by decide), expV_f h, if_neg (show ¬ (2 : Int) = 0 by decide)]
/-- A name. -/
theorem name_ok {i : Nat} (h : (expV ts i emp).1 = 0) : nameS ts ⟨i, 0, 0⟩ = ((ts.getD i Tk.no).tx, ⟨i + 1, 0, 0⟩) := by
  unfold nameS
  rw [takeS_0]
  cases h1 : isT ts 1 emp ⟨i, 0, 0⟩ with
  | false => rw [expV_f h1] at h; cases h
  | true =>
    rw [if_pos rfl]
    cases h2 : nameB (ts.getD i Tk.no).tx with
    | false => rw [expV_n h1 h2] at h; cases h
    | true => rw [if_neg (by rintro ⟨_, h⟩; cases h)]
theorem name_bad {i : Nat} (h : (expV ts i emp).1 ≠ 0) : (nameS ts ⟨i, 0, 0⟩).2.code = (expV ts i emp).1 ∧ (nameS ts ⟨i, 0, 0⟩).2.pos = (expV ts i emp).2 := by
  unfold nameS
  rw [takeS_0]
  cases h1 : isT ts 1 emp ⟨i, 0, 0⟩ with
  | false => rw [if_neg (by decide), expV_f h1, if_neg (by rintro ⟨h, _⟩; cases h)]; exact ⟨rfl, rfl⟩
  | true =>
    rw [if_pos rfl]
    cases h2 : nameB (ts.getD i Tk.no).tx with
    | false =>
      rw [expV_n h1 h2, if_pos ⟨rfl, rfl⟩, failS_ok rfl]
      exact ⟨rfl, rfl⟩
    | true => rw [expV_t h1 (Or.inr h2)] at h; exact absurd rfl h
/-- A token of a kind that must be there. -/
theorem take_kind {i : Nat} {k : Int} : takeS ts k emp ⟨i, 0, 0⟩ = if i < ts.length ∧ (ts.getD i Tk.no).k = k then (ts.getD i Tk.no, ⟨i + 1, 0, 0⟩) else (Tk.no, ⟨i, 2, i⟩) := by
  rw [takeS_0]
  have e : isT ts k emp ⟨i, 0, 0⟩ = decide (i < ts.length ∧ (ts.getD i Tk.no).k = k) := by
    unfold isT
    dsimp only
    by_cases hi : i < ts.length
    · rw [List.getElem?_eq_getElem hi, getD_in _ _ hi]
      simp [hi]
    · rw [List.getElem?_eq_none_iff.2 (by omega)]
      simp [hi]
  rw [e]
  simp only [decide_eq_true_eq]
theorem exp_le {i : Nat} {w : ByteArray} (h : (expV ts i w).1 = 0) : i < ts.length := by
  have h2 : isT ts 1 w ⟨i, 0, 0⟩ = true := by
    cases h3 : isT ts 1 w ⟨i, 0, 0⟩ with
    | true => rfl
    | false => unfold expV at h; rw [if_pos h3] at h; cases h
  exact isT_lt h2
end
/-! ### The head -/
/-- The head of a class, or the first fault. -/
def headR (ts : List Tk) : Except (Int × Nat) (ByteArray × Int × Int) :=
  if (expV ts 0 sClass).1 ≠ 0 then .error (expV ts 0 sClass)
  else if (expV ts 1 emp).1 ≠ 0 then .error (expV ts 1 emp)
  else if (expV ts 2 sPrio).1 ≠ 0 then .error (expV ts 2 sPrio)
  else if ¬ (3 < ts.length ∧ (ts.getD 3 Tk.no).k = 2) then .error (2, 3)
  else if (ts.getD 3 Tk.no).n < 0 ∨ (ts.getD 3 Tk.no).n > 255000 ∨ Int.tmod (ts.getD 3 Tk.no).n 1000 ≠ 0 then .error (6, 3)
  else if ts.length = 4 then .ok ((ts.getD 1 Tk.no).tx, Int.tdiv (ts.getD 3 Tk.no).n 1000, 0)
  else if (expV ts 4 sAck).1 ≠ 0 then .error (expV ts 4 sAck)
  else if (setR kindsL emp ts 5).2.code ≠ 0 then .error ((setR kindsL emp ts 5).2.code, (setR kindsL emp ts 5).2.pos)
  else .ok ((ts.getD 1 Tk.no).tx, Int.tdiv (ts.getD 3 Tk.no).n 1000, (setR kindsL emp ts 5).1)
theorem f72_ok {ts : List Tk} (ht : Tks ts) (hl : ts.length < 2 ^ 58) {full b full2 : Bool} {ks : List (List PC)} {la : Int} {K : ByteArray → Int → Int → Int → Int → Int → Prop}
    (h1 : ∀ v, headR ts = .ok v → K v.1 v.2.1 v.2.2 0 0 0) (h2 : ∀ c p, headR ts = .error (c, p) → c ≠ 0 → ∀ s m n, K s m n c la (colV ts p)) : f72 (ts.map Tk.c) full b ks full2 la K := by
  refine ⟨?_⟩
  unfold f72_d
  unfold headR at h1 h2
  have E1 : ∀ {c : Int}, c ≠ 0 → lnV la c = la := fun hc => if_neg hc
  have E2 : ∀ {c : Int} {p : Nat}, c ≠ 0 → clV ts c p = colV ts p := fun hc => if_neg hc
  refine f73_ok ht (i := 0) (w := sClass) (bB_of (fun g1 => ?_) fun g1 => ?_)
  · have g2 : (expV ts 0 sClass).1 ≠ 0 := by simpa using g1
    rw [if_pos g2] at h2
    rw [E1 g2, E2 g2]
    exact h2 _ _ rfl g2 _ _ _
  have g2 : (expV ts 0 sClass).1 = 0 := by simpa using g1
  rw [if_neg (by simpa using g2)] at h1 h2
  refine f73_ok ht (i := 1) (w := emp) (bB_of (fun g3 => ?_) fun g3 => ?_)
  · have g4 : (expV ts 1 emp).1 ≠ 0 := by simpa using g3
    rw [if_pos g4] at h2
    rw [E1 g4, E2 g4]
    exact h2 _ _ rfl g4 _ _ _
  have g4 : (expV ts 1 emp).1 = 0 := by simpa using g3
  have hj1 := exp_le g4
  rw [if_neg (by simpa using g4)] at h1 h2
  refine ⟨rngM _ _ hj1, ?_⟩
  rw [getD_map _ _ _ hj1]
  simp only [Tk.c, ext_0, ext_s, ext_z, cS_c, cI_c, cB_c, cL_c, cO_c, oS_c, oI_c, oB_c, oL_c, nilC_c, toNat_c]
  rw [getD_in _ _ hj1] at h1
  refine f73_ok ht (i := 2) (w := sPrio) (bB_of (fun g5 => ?_) fun g5 => ?_)
  · have g6 : (expV ts 2 sPrio).1 ≠ 0 := by simpa using g5
    rw [if_pos g6] at h2
    rw [E1 g6, E2 g6]
    exact h2 _ _ rfl g6 _ _ _
  have g6 : (expV ts 2 sPrio).1 = 0 := by simpa using g5
  rw [if_neg (by simpa using g6)] at h1 h2
  refine bB_of (fun g7 => ?_) fun g7 => ?_
  · rw [List.length_map, decide_eq_true_eq] at g7
    rw [if_pos (by omega)] at h2
    exact f74_ok ht.len (p := 3) (h2 _ _ rfl (by decide) _ _ _)
  rw [List.length_map, decide_eq_false_iff_not] at g7
  have hj3 : 3 < ts.length := by omega
  refine ⟨rngM _ _ hj3, ?_⟩
  rw [getD_map _ _ _ hj3]
  simp only [Tk.c, ext_0, ext_s, ext_z, cS_c, cI_c, cB_c, cL_c, cO_c, oS_c, oI_c, oB_c, oL_c, nilC_c, toNat_c]
  rw [getD_in _ _ hj3] at h1 h2
  refine bB_of (fun g8 => ?_) fun g8 => ?_
  · have g9 : ts[3].k ≠ 2 := by simpa using g8
    rw [if_pos (fun hc => g9 hc.2)] at h2
    exact f74_ok ht.len (p := 3) (h2 _ _ rfl (by decide) _ _ _)
  have g9 : ts[3].k = 2 := by simpa using g8
  rw [if_neg (fun hc => hc ⟨hj3, g9⟩)] at h1 h2
  unfold f72_p29
  refine ⟨rngM _ _ hj3, ?_⟩
  rw [getD_map _ _ _ hj3]
  simp only [Tk.c, ext_0, ext_s, ext_z, cS_c, cI_c, cB_c, cL_c, cO_c, oS_c, oI_c, oB_c, oL_c, nilC_c, toNat_c]
  have bad : (ts[3].n < 0 ∨ ts[3].n > 255000 ∨ Int.tmod ts[3].n 1000 ≠ 0) → ∀ m n, f74 6 (ts.map Tk.c) full b ks full2 la 3 (fun n40 n41 n42 => K ts[1].tx m n n40 n41 n42) := fun hb m n => by
    rw [if_pos hb] at h2
    exact f74_ok ht.len (p := 3) (h2 _ _ rfl (by decide) _ _ _)
  refine bB_of (fun k1 => bad (Or.inl (by simpa using k1)) _ _) fun k1 => bB_of (fun k2 => bad (Or.inr (Or.inl (by simpa using k2))) _ _) fun k2 => ⟨by decide, bB_of (fun k3 => bad (Or.inr (Or.inr (by simpa using k3))) _ _) fun k3 => ?_⟩
  have k1' : 0 ≤ ts[3].n := by simpa using k1
  have k2' : ts[3].n ≤ 255000 := by simpa using k2
  have k3' : Int.tmod ts[3].n 1000 = 0 := by simpa using k3
  rw [if_neg (by omega)] at h1 h2
  have ew : w64 (Int.tdiv ts[3].n 1000) = Int.tdiv ts[3].n 1000 := by
    rw [Int.tdiv_eq_ediv_of_nonneg k1', w64_in (by omega) (by omega)]
  unfold f72_p35
  rw [ew, List.length_map]
  refine ⟨by decide, bB_of (fun k4 => ?_) fun k4 => ?_⟩
  · have k5 : ts.length = 4 := by rw [beq_iff_eq] at k4; omega
    rw [if_pos k5] at h1
    exact h1 _ rfl
  have k5 : ts.length ≠ 4 := by
    intro hc
    rw [hc] at k4
    simp at k4
  rw [if_neg k5] at h1 h2
  refine f73_ok ht (i := 4) (w := sAck) (bB_of (fun g5 => ?_) fun g5 => ?_)
  · have g6 : (expV ts 4 sAck).1 ≠ 0 := by simpa using g5
    rw [if_pos g6] at h2
    rw [E1 g6, E2 g6]
    exact h2 _ _ rfl g6 _ _ _
  have g6 : (expV ts 4 sAck).1 = 0 := by simpa using g5
  rw [if_neg (by simpa using g6)] at h1 h2
  have hj4 := exp_le g6
  have F : f99 (ts.map Tk.c) full b ks full2 la 5 (kindsL.map sc) false (⟨#[]⟩ : ByteArray) (fun n82 n83 n84 n85 n86 => K ts[1].tx (Int.tdiv ts[3].n 1000) n82 n84 n85 n86) := by
    refine f99_ok hl (i0 := 5) (e := emp) (ws := kindsL) (by decide) (by omega) ?_
    by_cases hc : (setR kindsL emp ts 5).2.code = 0
    · rw [if_neg (by simpa using hc)] at h1
      rw [St.ln0 hc, St.col0 hc, hc]
      exact h1 _ rfl
    · rw [if_pos hc] at h2
      rw [St.ln, St.col, if_neg hc, if_neg hc]
      exact h2 _ _ rfl hc _ _ _
  exact ⟨f43_ok ⟨F, F⟩, f43_ok F⟩
end Go.Eng.N
