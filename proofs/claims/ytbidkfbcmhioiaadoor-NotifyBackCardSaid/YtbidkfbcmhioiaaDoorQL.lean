/- Notify, pure: the reader of tokens, 12: the program's head is the reference's. -/
import Derived.Test.YtbidkfbcmhioiaaDoorQK
set_option linter.unusedVariables false
set_option linter.unusedSimpArgs false
namespace Go.Eng.N
open Go Go.Eng
section
variable {ts : List Tk} {s : St}
theorem ackS_dead (h : s.code ≠ 0) : ackS ts s = (0, s) := by unfold ackS; rw [if_neg (fun hc => h hc.1)]
theorem head_law : ((headP ts).2.code = 0 → headR ts = .ok ((headP ts).1.1, Int.tdiv (headP ts).1.2.1 1000, (headP ts).1.2.2) ∧ 0 ≤ (headP ts).1.2.1 ∧ (headP ts).1.2.1 ≤ 255000) ∧ ((headP ts).2.code ≠ 0 → headR ts = .error ((headP ts).2.code, (headP ts).2.pos)) := by
  have dead : ∀ (y : St), y.code ≠ 0 → (headP ts).2 = y → headR ts = .error (y.code, y.pos) → ((headP ts).2.code = 0 → headR ts = .ok ((headP ts).1.1, Int.tdiv (headP ts).1.2.1 1000, (headP ts).1.2.2) ∧ 0 ≤ (headP ts).1.2.1 ∧ (headP ts).1.2.1 ≤ 255000) ∧ ((headP ts).2.code ≠ 0 → headR ts = .error ((headP ts).2.code, (headP ts).2.pos)) := by
    intro y h1 h2 h3
    rw [h2]
    exact ⟨fun h => absurd h h1, fun _ => h3⟩
  have late : ∀ (y : St), y.code ≠ 0 → (nameS ts (takeS ts 1 sClass ⟨0, 0, 0⟩).2).2 = y → (headP ts).2 = y := by
    intro y h1 h2
    unfold headP
    dsimp only
    rw [h2, takeS_dead h1]
    dsimp only
    rw [takeS_dead h1]
    dsimp only
    rw [if_neg (fun hc => h1 hc.1), ackS_dead h1]
  by_cases g1 : (expV ts 0 sClass).1 = 0
  · by_cases g2 : (expV ts 1 emp).1 = 0
    · have e1 : nameS ts (takeS ts 1 sClass ⟨0, 0, 0⟩).2 = ((ts.getD 1 Tk.no).tx, ⟨2, 0, 0⟩) := by rw [take_exp (by decide), if_pos g1]; exact name_ok g2
      by_cases g3 : (expV ts 2 sPrio).1 = 0
      · by_cases g4 : 3 < ts.length ∧ (ts.getD 3 Tk.no).k = 2
        · have e2 : takeS ts 2 emp (takeS ts 1 sPrio ⟨2, 0, 0⟩).2 = (ts.getD 3 Tk.no, ⟨4, 0, 0⟩) := by rw [take_exp (by decide), if_pos g3, take_kind, if_pos g4]
          have e3 : headP ts = (((ts.getD 1 Tk.no).tx, (ts.getD 3 Tk.no).n, (ackS ts (if badN (ts.getD 3 Tk.no).n then ⟨4, 6, 3⟩ else ⟨4, 0, 0⟩)).1), (ackS ts (if badN (ts.getD 3 Tk.no).n then ⟨4, 6, 3⟩ else ⟨4, 0, 0⟩)).2) := by
            unfold headP
            dsimp only
            rw [e1]
            dsimp only
            rw [e2]
            dsimp only
            by_cases hb : badN (ts.getD 3 Tk.no).n
            · rw [if_pos ⟨rfl, hb⟩, if_pos hb, failS_ok rfl]
            · rw [if_neg (fun hc => hb hc.2), if_neg hb]
          unfold headR at dead ⊢
          simp only [if_neg (show ¬ (expV ts 0 sClass).1 ≠ 0 from fun hc => hc g1), if_neg (show ¬ (expV ts 1 emp).1 ≠ 0 from fun hc => hc g2), if_neg (show ¬ (expV ts 2 sPrio).1 ≠ 0 from fun hc => hc g3), if_neg (show ¬ ¬ (3 < ts.length ∧ (ts.getD 3 Tk.no).k = 2) from fun hc => hc g4)] at dead ⊢
          by_cases hb : badN (ts.getD 3 Tk.no).n
          · refine dead ⟨4, 6, 3⟩ (show (6 : Int) ≠ 0 by decide) ?_ ?_
            · rw [e3, if_pos hb, ackS_dead (show (6 : Int) ≠ 0 by decide)]
            · rw [if_pos]
              rcases hb with h | h | h
              · exact Or.inr (Or.inr h)
              · exact Or.inl h
              · exact Or.inr (Or.inl h)
          · rw [if_neg hb] at e3
            have hb2 : ¬ ((ts.getD 3 Tk.no).n < 0 ∨ (ts.getD 3 Tk.no).n > 255000 ∨ Int.tmod (ts.getD 3 Tk.no).n 1000 ≠ 0) := by
              rintro (h | h | h)
              · exact hb (Or.inr (Or.inl h))
              · exact hb (Or.inr (Or.inr h))
              · exact hb (Or.inl h)
            have hr : 0 ≤ (ts.getD 3 Tk.no).n ∧ (ts.getD 3 Tk.no).n ≤ 255000 := by omega
            simp only [if_neg hb2] at dead ⊢
            by_cases g5 : ts.length = 4
            · have e4 : ackS ts ⟨4, 0, 0⟩ = (0, ⟨4, 0, 0⟩) := by unfold ackS; rw [if_neg (by rintro ⟨_, h⟩; simp only at h; omega)]
              rw [e4] at e3
              rw [e3, if_pos g5]
              exact ⟨fun _ => ⟨rfl, hr⟩, fun h => absurd rfl h⟩
            · have e4 : ackS ts ⟨4, 0, 0⟩ = setS kindsL emp ts (takeS ts 1 sAck ⟨4, 0, 0⟩).2 := by unfold ackS; rw [if_pos ⟨rfl, by simp only; omega⟩]
              rw [e4] at e3
              simp only [if_neg g5] at dead ⊢
              by_cases g6 : (expV ts 4 sAck).1 = 0
              · rw [take_exp (by decide), if_pos g6] at e3
                dsimp only at e3
                have hs := set_last (ts := ts) (ws := kindsL) (i := 5)
                simp only [if_neg (show ¬ (expV ts 4 sAck).1 ≠ 0 from fun hc => hc g6)] at dead ⊢
                by_cases g7 : (setR kindsL emp ts 5).2.code = 0
                · rw [← hs.2.2 g7] at e3
                  rw [if_neg (fun hc => hc g7), e3]
                  exact ⟨fun _ => ⟨rfl, hr⟩, fun h => absurd g7 h⟩
                · have h5 : (setS kindsL emp ts ⟨5, 0, 0⟩).2.code ≠ 0 := by rw [← hs.1]; exact g7
                  refine dead (setS kindsL emp ts ⟨5, 0, 0⟩).2 h5 (by rw [e3]) ?_
                  rw [if_pos g7, hs.1, hs.2.1 g7]
              · rw [take_exp (by decide), if_neg g6] at e3
                have h5 : (⟨4, (expV ts 4 sAck).1, (expV ts 4 sAck).2⟩ : St).code ≠ 0 := g6
                rw [setS_dead h5] at e3
                refine dead ⟨4, (expV ts 4 sAck).1, (expV ts 4 sAck).2⟩ h5 (by rw [e3]) ?_
                rw [if_pos g6]
        · refine dead ⟨3, 2, 3⟩ (show (2 : Int) ≠ 0 by decide) ?_ ?_
          · unfold headP
            dsimp only
            rw [e1]
            dsimp only
            rw [take_exp (by decide), if_pos g3]
            dsimp only
            rw [take_kind, if_neg g4]
            dsimp only
            rw [if_neg (fun hc => absurd hc.1 (show ¬ (2 : Int) = 0 by decide)), ackS_dead (show (2 : Int) ≠ 0 by decide)]
          · unfold headR
            rw [if_neg (fun hc => hc g1), if_neg (fun hc => hc g2), if_neg (fun hc => hc g3), if_pos g4]
      · have h5 : (⟨2, (expV ts 2 sPrio).1, (expV ts 2 sPrio).2⟩ : St).code ≠ 0 := g3
        refine dead _ h5 ?_ ?_
        · unfold headP
          dsimp only
          rw [e1]
          dsimp only
          rw [take_exp (by decide), if_neg g3]
          dsimp only
          rw [takeS_dead h5]
          dsimp only
          rw [if_neg (fun hc => g3 hc.1), ackS_dead h5]
        · unfold headR
          rw [if_neg (fun hc => hc g1), if_neg (fun hc => hc g2), if_pos g3]
    · have hs := name_bad g2
      have e1 : (takeS ts 1 sClass ⟨0, 0, 0⟩).2 = ⟨1, 0, 0⟩ := by rw [take_exp (by decide), if_pos g1]
      have h5 : (nameS ts ⟨1, 0, 0⟩).2.code ≠ 0 := by rw [hs.1]; exact g2
      refine dead _ h5 (late _ h5 (by rw [e1])) ?_
      unfold headR
      rw [if_neg (fun hc => hc g1), if_pos g2, hs.1, hs.2]
  · have h5 : (⟨0, (expV ts 0 sClass).1, (expV ts 0 sClass).2⟩ : St).code ≠ 0 := g1
    refine dead _ h5 (late _ h5 ?_) ?_
    · rw [take_exp (by decide), if_neg g1]
      dsimp only
      rw [nameS_dead h5]
    · unfold headR
      rw [if_pos g1]
end
end Go.Eng.N
