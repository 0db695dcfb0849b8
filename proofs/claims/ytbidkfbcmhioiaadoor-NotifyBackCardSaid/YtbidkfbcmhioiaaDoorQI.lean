/- Notify, pure: the reader of tokens, 9: the program's recipient, the law. -/
import Derived.Test.YtbidkfbcmhioiaaDoorQH
set_option linter.unusedVariables false
set_option linter.unusedSimpArgs false
namespace Go.Eng.N
open Go Go.Eng
/-- A kid of a class, or the first fault. -/
def kidR (ts : List Tk) (hd : Bool) (nk : Nat) (rs : List Rc) : Except (Int × Nat) Rc :=
  if (expV ts 0 sRec).1 ≠ 0 then .error (expV ts 0 sRec)
  else if rs.length ≥ 8 then .error (7, 0)
  else match recR ts with
    | .error e => .error e
    | .ok x => if hd = true ∨ nk > 0 then .error (2, ts.length - 1) else if x ∈ rs then .error (5, 0) else .ok x
section
variable {ts : List Tk} {s : St} {rs : List Rc} {hd : Bool} {nk : Nat}
theorem timeS_dead (h : s.code ≠ 0) : (timeS ts s).2 = s := by
  unfold timeS
  dsimp only
  have e : nameS ts s = (emp, s) := nameS_dead h
  rw [e]
  dsimp only
  rw [takeS_dead h]
  dsimp only
  rw [setS_dead h]
  dsimp only
  rw [takeS_dead h]
  dsimp only
  rw [takeS_dead h]
  dsimp only
  rw [takeS_dead h]
  dsimp only
  rw [takeS_dead h, if_neg (fun hc => h hc.1)]
theorem lastS_dead (h : s.code ≠ 0) : (lastS ts hd nk s).2 = s := by
  unfold lastS
  dsimp only
  rw [takeS_dead h]
  dsimp only
  rw [setS_dead h]
  dsimp only
  rw [failS_dead h, ite_self]
theorem dupS_dead {r : Rc} (h : s.code ≠ 0) : dupS rs r s = s := by
  unfold dupS
  rw [if_neg (fun hc => h hc.1)]
theorem prog_law : ((progR ts hd nk rs).2.code = 0 → kidR ts hd nk rs = .ok (progR ts hd nk rs).1) ∧ ((progR ts hd nk rs).2.code ≠ 0 → kidR ts hd nk rs = .error ((progR ts hd nk rs).2.code, (progR ts hd nk rs).2.pos)) := by
  have dead : ∀ (y : St), y.code ≠ 0 → (progR ts hd nk rs).2 = y → kidR ts hd nk rs = .error (y.code, y.pos) → ((progR ts hd nk rs).2.code = 0 → kidR ts hd nk rs = .ok (progR ts hd nk rs).1) ∧ ((progR ts hd nk rs).2.code ≠ 0 → kidR ts hd nk rs = .error ((progR ts hd nk rs).2.code, (progR ts hd nk rs).2.pos)) := by
    intro y h1 h2 h3
    rw [h2]
    exact ⟨fun h => absurd h h1, fun _ => h3⟩
  have body : ∀ (y : St), y.code ≠ 0 → (if rs.length ≥ 8 then failS 7 0 (takeS ts 1 sRec ⟨0, 0, 0⟩).2 else (takeS ts 1 sRec ⟨0, 0, 0⟩).2) = y → (progR ts hd nk rs).2 = y := by
    intro y h1 h2
    unfold progR
    dsimp only
    rw [h2, timeS_dead h1, lastS_dead h1, dupS_dead h1]
  by_cases g1 : (expV ts 0 sRec).1 = 0
  · by_cases g2 : rs.length ≥ 8
    · refine dead ⟨1, 7, 0⟩ (show (7 : Int) ≠ 0 by decide) (body _ (show (7 : Int) ≠ 0 by decide) ?_) ?_
      · rw [if_pos g2, take_exp (by decide), if_pos g1]; rfl
      · unfold kidR
        rw [if_neg (fun hc => hc g1), if_pos g2]
    · have e1 : (if rs.length ≥ 8 then failS 7 0 (takeS ts 1 sRec ⟨0, 0, 0⟩).2 else (takeS ts 1 sRec ⟨0, 0, 0⟩).2) = ⟨1, 0, 0⟩ := by
        rw [if_neg g2, take_exp (by decide), if_pos g1]
      have e2 : kidR ts hd nk rs = match recR ts with
          | .error e => .error e
          | .ok x => if hd = true ∨ nk > 0 then .error (2, ts.length - 1) else if x ∈ rs then .error (5, 0) else .ok x := by
        unfold kidR
        rw [if_neg (fun hc => hc g1), if_neg g2]
      have e3 : progR ts hd nk rs = (⟨(timeS ts ⟨1, 0, 0⟩).1.1, (timeS ts ⟨1, 0, 0⟩).1.2.1, (timeS ts ⟨1, 0, 0⟩).1.2.2.1, (timeS ts ⟨1, 0, 0⟩).1.2.2.2, (lastS ts hd nk (timeS ts ⟨1, 0, 0⟩).2).1⟩, dupS rs ⟨(timeS ts ⟨1, 0, 0⟩).1.1, (timeS ts ⟨1, 0, 0⟩).1.2.1, (timeS ts ⟨1, 0, 0⟩).1.2.2.1, (timeS ts ⟨1, 0, 0⟩).1.2.2.2, (lastS ts hd nk (timeS ts ⟨1, 0, 0⟩).2).1⟩ (lastS ts hd nk (timeS ts ⟨1, 0, 0⟩).2).2) := by
        unfold progR
        dsimp only
        rw [e1]
      rcases time_law (ts := ts) with ⟨h1, h2⟩ | ⟨j, h1, h2⟩
      · refine dead _ h1 ?_ ?_
        · rw [e3]
          dsimp only
          rw [lastS_dead h1, dupS_dead h1]
        · rw [e2, h2]
      · rw [h1] at e3
        rw [h2] at e2
        generalize (timeS ts ⟨1, 0, 0⟩).1 = x at e2 e3
        unfold recR3 at e2
        unfold lastS at e3
        dsimp only at e3
        by_cases g3 : (expV ts j sFor).1 = 0
        · rw [if_neg (fun hc => hc g3)] at e2
          rw [take_exp (by decide), if_pos g3] at e3
          dsimp only at e3
          have hs := set_last (ts := ts) (ws := kindsL) (i := j + 1)
          by_cases g4 : (setR kindsL emp ts (j + 1)).2.code = 0
          · rw [if_neg (fun hc => hc g4)] at e2
            rw [← hs.2.2 g4] at e3
            generalize setR kindsL emp ts (j + 1) = S at g4 e2 e3
            dsimp only at e2
            by_cases g5 : hd = true ∨ nk > 0
            · rw [if_pos g5] at e2
              rw [if_pos g5, failS_ok g4] at e3
              refine dead ⟨S.2.i, 2, ts.length - 1⟩ (show (2 : Int) ≠ 0 by decide) ?_ e2
              rw [e3]
              dsimp only
              rw [dupS_dead (s := ⟨S.2.i, 2, ts.length - 1⟩) (show (2 : Int) ≠ 0 by decide)]
            · rw [if_neg g5] at e2
              rw [if_neg g5] at e3
              by_cases g6 : (⟨x.1, x.2.1, x.2.2.1, x.2.2.2, S.1⟩ : Rc) ∈ rs
              · rw [if_pos g6] at e2
                refine dead ⟨S.2.i, 5, 0⟩ (show (5 : Int) ≠ 0 by decide) ?_ e2
                rw [e3]
                unfold dupS
                rw [if_pos ⟨g4, g6⟩, failS_ok g4]
              · rw [if_neg g6] at e2
                have e4 : (progR ts hd nk rs).2 = S.2 := by
                  rw [e3]
                  unfold dupS
                  rw [if_neg (fun hc => g6 hc.2)]
                rw [e4]
                exact ⟨fun _ => by rw [e2, e3], fun h => absurd g4 h⟩
          · rw [if_pos g4] at e2
            have h5 : (setS kindsL emp ts ⟨j + 1, 0, 0⟩).2.code ≠ 0 := by rw [← hs.1]; exact g4
            refine dead (setS kindsL emp ts ⟨j + 1, 0, 0⟩).2 h5 ?_ ?_
            · rw [e3]
              dsimp only
              rw [failS_dead h5, ite_self, dupS_dead h5]
            · rw [e2, hs.1, hs.2.1 g4]
        · rw [if_pos g3] at e2
          rw [take_exp (by decide), if_neg g3] at e3
          have h5 : (⟨j, (expV ts j sFor).1, (expV ts j sFor).2⟩ : St).code ≠ 0 := g3
          refine dead ⟨j, (expV ts j sFor).1, (expV ts j sFor).2⟩ h5 ?_ e2
          rw [e3]
          dsimp only
          rw [setS_dead h5]
          dsimp only
          rw [failS_dead h5, ite_self, dupS_dead h5]
  · have h5 : (⟨0, (expV ts 0 sRec).1, (expV ts 0 sRec).2⟩ : St).code ≠ 0 := g1
    refine dead _ h5 (body _ h5 ?_) ?_
    · rw [take_exp (by decide), if_neg g1]
      dsimp only
      rw [failS_dead h5, ite_self]
    · unfold kidR
      rw [if_pos g1]
theorem f71_ok {full full2 f3 : Bool} {ks : List (List PC)} {la : Int} (ht : Tks ts) (hl : ts.length < 2 ^ 58) (hk : ks.length < 2 ^ 59) (hs : rs.length < 2 ^ 59) {z0 : ByteArray} {a1 a2 : Int} {K : ByteArray → Int → Int → Int → Int → Int → Int → Int → Prop}
    (h1 : ∀ r, kidR ts hd ks.length rs = .ok r → K r.nm r.days r.fr r.to r.kinds 0 0 0) (h2 : ∀ c p, kidR ts hd ks.length rs = .error (c, p) → c ≠ 0 → ∀ s j l m n, K s j l m n c la (colV ts p)) :
    f71 (ts.map Tk.c) full hd ks full2 la z0 a1 a2 (rs.map Rc.c) f3 K := by
  refine f71_sp ht hl hk hs fun p hp => ?_
  have hp2 := prog_law (ts := ts) (hd := hd) (nk := ks.length) (rs := rs)
  rw [← hp] at hp2
  by_cases hc : p.2.code = 0
  · rw [St.ln0 hc, St.col0 hc, hc]
    exact h1 _ (hp2.1 hc)
  · rw [St.ln, St.col, if_neg hc, if_neg hc]
    exact h2 _ _ (hp2.2 hc) hc _ _ _ _ _
end
end Go.Eng.N
