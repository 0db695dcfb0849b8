/- Notify, pure: the reader of tokens, 8: the program's recipient is the reference's. -/
import Derived.Test.YtbidkfbcmhioiaaDoorQG
set_option linter.unusedVariables false
set_option linter.unusedSimpArgs false
namespace Go.Eng.N
open Go Go.Eng
section
variable {ts : List Tk} {s : St} {rs : List Rc}
theorem setL_end {ws : List ByteArray} {e : ByteArray} (hw : ws.length ≤ 7) : ∀ (n : Nat) {first : Bool} {out i : Nat}, ts.length - i = n → i ≤ ts.length → out < 2 ^ 7 → (setL ws e first out i (ts.drop i)).2.code = 0 → (setL ws e first out i (ts.drop i)).2.i < ts.length → e ≠ emp ∧ isT ts 1 e ⟨(setL ws e first out i (ts.drop i)).2.i, 0, 0⟩ = true := by
  intro n
  induction n with
  | zero =>
    intro first out i hn hi ho h1 h2
    have hd : ts.drop i = [] := List.drop_eq_nil_iff.2 (by omega)
    rw [hd] at h1 h2
    cases first
    · simp only [setL] at h2
      simp at h2
      omega
    · cases h1
  | succ n ih =>
    intro first out i hn hi ho h1 h2
    by_cases hg : first = true ∨ (i < ts.length ∧ ¬ (e ≠ emp ∧ isT ts 1 e ⟨i, 0, 0⟩ = true))
    · have hk := wordS_ok hw ho hi
      rw [setL_step hg] at h1 h2 ⊢
      by_cases h3 : (wordS ws ts out ⟨i, 0, 0⟩).2.code = 0
      · rw [if_neg (fun hc => hc h3)] at h1 h2 ⊢
        exact ih (by omega) (by omega) hk.1 h1 h2
      · rw [if_pos h3] at h1
        exact absurd h1 h3
    · have hf : first = false := by
        cases first
        · rfl
        · exact absurd (Or.inl rfl) hg
      subst hf
      have hs : e ≠ emp ∧ isT ts 1 e ⟨i, 0, 0⟩ = true := by
        by_cases hc : e ≠ emp ∧ isT ts 1 e ⟨i, 0, 0⟩ = true
        · exact hc
        · exact absurd (Or.inr ⟨by omega, hc⟩) hg
      rw [setL_stop hi (Or.inr hs)]
      exact hs
theorem setS_0 {ws : List ByteArray} {e : ByteArray} {i : Nat} : setS ws e ts ⟨i, 0, 0⟩ = setL ws e true 0 i (ts.drop i) := by
  unfold setS
  exact if_neg (fun hc => hc rfl)
/-- A set that runs to the end of the line. -/
theorem set_last {ws : List ByteArray} {i : Nat} : (setR ws emp ts i).2.code = (setS ws emp ts ⟨i, 0, 0⟩).2.code ∧ ((setR ws emp ts i).2.code ≠ 0 → (setR ws emp ts i).2.pos = (setS ws emp ts ⟨i, 0, 0⟩).2.pos) ∧ ((setR ws emp ts i).2.code = 0 → setR ws emp ts i = setS ws emp ts ⟨i, 0, 0⟩) := by
  rw [setS_0]
  unfold setR
  by_cases h : (setL ws emp true 0 i (ts.drop i)).2.code = 0
  · rw [if_neg (fun hc => hc h), if_neg (fun hc => hc.1 rfl)]
    exact ⟨rfl, fun _ => rfl, fun _ => rfl⟩
  · rw [if_pos h]
    exact ⟨rfl, fun _ => rfl, fun hc => absurd hc h⟩
/-- A set up to a word, and that word. -/
theorem set_word {ws : List ByteArray} {e : ByteArray} {i : Nat} (hw : ws.length ≤ 7) (he : e ≠ emp) (hi : i ≤ ts.length) :
    (if (setR ws e ts i).2.code = 0 then (setS ws e ts ⟨i, 0, 0⟩).1 = (setR ws e ts i).1 ∧ (takeS ts 1 e (setS ws e ts ⟨i, 0, 0⟩).2).2 = ⟨(setR ws e ts i).2.i + 1, 0, 0⟩
      else (takeS ts 1 e (setS ws e ts ⟨i, 0, 0⟩).2).2.code = (setR ws e ts i).2.code ∧ (takeS ts 1 e (setS ws e ts ⟨i, 0, 0⟩).2).2.pos = (setR ws e ts i).2.pos) := by
  rw [setS_0]
  have h1 := setL_ok (ts := ts) (ws := ws) (e := e) hw (ts.length - i) (first := true) (out := 0) rfl hi (by decide)
  have h2 := setL_end (ts := ts) (ws := ws) (e := e) hw (ts.length - i) (first := true) (out := 0) rfl hi (by decide)
  unfold setR
  generalize setL ws e true 0 i (ts.drop i) = R at h1 h2 ⊢
  obtain ⟨o, j, c, p⟩ := R
  dsimp only at h1 h2 ⊢
  by_cases hc : c = 0
  · subst hc
    obtain ⟨g1, g2, g3⟩ := h1.2 rfl
    subst g3
    rw [if_neg (c := (0 : Int) ≠ 0) (fun hc => hc rfl)]
    by_cases hj : j = ts.length
    · rw [if_pos (c := e ≠ emp ∧ j = ts.length) ⟨he, hj⟩, if_neg (show ¬ (2 : Int) = 0 by decide), takeS_0]
      have : isT ts 1 e ⟨j, 0, 0⟩ = false := by
        rw [Bool.eq_false_iff]
        intro hc
        have := isT_lt hc
        simp only at this
        omega
      rw [if_neg (by rw [this]; decide), hj]
      exact ⟨rfl, rfl⟩
    · rw [if_neg (c := e ≠ emp ∧ j = ts.length) (fun hc => hj hc.2), if_pos rfl, takeS_0, if_pos (h2 rfl (by omega)).2]
      exact ⟨rfl, rfl⟩
  · rw [if_pos hc, if_neg hc, takeS_dead hc]
    exact ⟨rfl, rfl⟩
/-- The last words of a recipient, from the token j on. -/
def recR3 (ts : List Tk) (x : ByteArray × Int × Int × Int) (j : Nat) : Except (Int × Nat) Rc :=
  if (expV ts j sFor).1 ≠ 0 then .error (expV ts j sFor)
  else if (setR kindsL emp ts (j + 1)).2.code ≠ 0 then .error ((setR kindsL emp ts (j + 1)).2.code, (setR kindsL emp ts (j + 1)).2.pos)
  else .ok ⟨x.1, x.2.1, x.2.2.1, x.2.2.2, (setR kindsL emp ts (j + 1)).1⟩
theorem time_law : ((timeS ts ⟨1, 0, 0⟩).2.code ≠ 0 ∧ recR ts = .error ((timeS ts ⟨1, 0, 0⟩).2.code, (timeS ts ⟨1, 0, 0⟩).2.pos)) ∨ ∃ j, (timeS ts ⟨1, 0, 0⟩).2 = ⟨j, 0, 0⟩ ∧ recR ts = recR3 ts (timeS ts ⟨1, 0, 0⟩).1 j := by
  unfold timeS recR
  dsimp only
  by_cases g1 : (expV ts 1 emp).1 = 0
  · rw [name_ok g1, if_neg (c := (expV ts 1 emp).1 ≠ 0) (fun hc => hc g1), take_exp (by decide)]
    by_cases g2 : (expV ts 2 sDays).1 = 0
    · rw [if_pos g2, if_neg (c := (expV ts 2 sDays).1 ≠ 0) (fun hc => hc g2)]
      have hl := exp_le g2
      have hs := set_word (ts := ts) (ws := daysL) (e := sFrom) (i := 3) (by decide) (by decide) (by omega)
      by_cases g3 : (setR daysL sFrom ts 3).2.code = 0
      · rw [if_pos g3] at hs
        rw [if_neg (c := (setR daysL sFrom ts 3).2.code ≠ 0) (fun hc => hc g3), hs.1, hs.2]
        unfold recR2
        generalize (setR daysL sFrom ts 3).2.i = i
        generalize (setR daysL sFrom ts 3).1 = d
        rw [take_kind]
        by_cases g4 : i + 1 < ts.length ∧ (ts.getD (i + 1) Tk.no).k = 4
        · rw [if_pos g4, if_neg (c := ¬ (i + 1 < ts.length ∧ (ts.getD (i + 1) Tk.no).k = 4)) (fun hc => hc g4), take_exp (by decide)]
          by_cases g5 : (expV ts (i + 2) sTo).1 = 0
          · rw [if_pos g5, if_neg (c := (expV ts (i + 2) sTo).1 ≠ 0) (fun hc => hc g5), take_kind]
            by_cases g6 : i + 3 < ts.length ∧ (ts.getD (i + 3) Tk.no).k = 4
            · rw [if_pos g6, if_neg (c := ¬ (i + 3 < ts.length ∧ (ts.getD (i + 3) Tk.no).k = 4)) (fun hc => hc g6)]
              by_cases g7 : (ts.getD (i + 3) Tk.no).n < (ts.getD (i + 1) Tk.no).n
              · rw [if_pos ⟨rfl, g7⟩, if_pos g7, failS_ok rfl]
                exact Or.inl ⟨show (6 : Int) ≠ 0 by decide, rfl⟩
              · rw [if_neg (fun hc => g7 hc.2), if_neg g7]
                exact Or.inr ⟨i + 4, rfl, rfl⟩
            · rw [if_neg g6, if_pos g6, if_neg (fun hc => absurd hc.1 (show ¬ (2 : Int) = 0 by decide))]
              exact Or.inl ⟨show (2 : Int) ≠ 0 by decide, rfl⟩
          · rw [if_neg g5, if_pos (c := (expV ts (i + 2) sTo).1 ≠ 0) g5]
            have hd : (⟨i + 1 + 1, (expV ts (i + 2) sTo).1, (expV ts (i + 2) sTo).2⟩ : St).code ≠ 0 := g5
            rw [takeS_dead hd, if_neg (fun hc => g5 hc.1)]
            exact Or.inl ⟨g5, rfl⟩
        · rw [if_neg g4, if_pos (c := ¬ (i + 1 < ts.length ∧ (ts.getD (i + 1) Tk.no).k = 4)) g4]
          have hd : (⟨i + 1, 2, i + 1⟩ : St).code ≠ 0 := show (2 : Int) ≠ 0 by decide
          rw [takeS_dead hd, takeS_dead hd, if_neg (fun hc => hd hc.1)]
          exact Or.inl ⟨hd, rfl⟩
      · rw [if_neg g3] at hs
        rw [if_pos (c := (setR daysL sFrom ts 3).2.code ≠ 0) g3]
        generalize (takeS ts 1 sFrom (setS daysL sFrom ts ⟨3, 0, 0⟩).2).2 = y at hs ⊢
        have hd : y.code ≠ 0 := by rw [hs.1]; exact g3
        rw [takeS_dead hd, takeS_dead hd, takeS_dead hd, if_neg (fun hc => hd hc.1)]
        exact Or.inl ⟨hd, by rw [← hs.1, ← hs.2]⟩
    · rw [if_neg g2, if_pos (c := (expV ts 2 sDays).1 ≠ 0) g2]
      have hd : (⟨1 + 1, (expV ts 2 sDays).1, (expV ts 2 sDays).2⟩ : St).code ≠ 0 := g2
      rw [setS_dead hd, takeS_dead hd, takeS_dead hd, takeS_dead hd, takeS_dead hd, if_neg (fun hc => g2 hc.1)]
      exact Or.inl ⟨g2, rfl⟩
  · have hs := name_bad g1
    rw [if_pos (c := (expV ts 1 emp).1 ≠ 0) g1]
    generalize nameS ts ⟨1, 0, 0⟩ = y at hs ⊢
    have hd : y.2.code ≠ 0 := by rw [hs.1]; exact g1
    rw [takeS_dead hd, setS_dead hd, takeS_dead hd, takeS_dead hd, takeS_dead hd, takeS_dead hd, if_neg (fun hc => hd hc.1)]
    exact Or.inl ⟨hd, by rw [hs.1, hs.2]⟩
end
end Go.Eng.N
