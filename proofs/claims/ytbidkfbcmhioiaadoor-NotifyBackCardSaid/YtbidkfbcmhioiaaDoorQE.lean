/- Notify, pure: the reader of tokens, 5: a recipient, by the reference. -/
import Derived.Test.YtbidkfbcmhioiaaDoorQD
import Derived.Test.YtbidkfbcmhioiaaDoorFn3
set_option linter.unusedVariables false
set_option linter.unusedSimpArgs false
namespace Go.Eng.N
open Go Go.Eng
theorem setR_ok {ts : List Tk} {ws : List ByteArray} {e : ByteArray} {i : Nat} (hw : ws.length ≤ 7) (hi : i ≤ ts.length) (h : (setR ws e ts i).2.code = 0) :
    setR ws e ts i = setL ws e true 0 i (ts.drop i) ∧ (setR ws e ts i).1 < 2 ^ 7 ∧ (setR ws e ts i).2.i ≤ ts.length ∧ (setR ws e ts i).2.pos = 0 ∧ (e ≠ emp → (setR ws e ts i).2.i < ts.length) := by
  unfold setR at h ⊢
  have h1 := setL_ok (ts := ts) (ws := ws) (e := e) hw (ts.length - i) (first := true) (out := 0) rfl hi (by decide)
  generalize setL ws e true 0 i (ts.drop i) = R at h h1 ⊢
  by_cases h2 : R.2.code = 0
  · rw [if_neg (fun hc => hc h2)] at h ⊢
    by_cases h3 : e ≠ emp ∧ R.2.i = ts.length
    · rw [if_pos h3] at h; cases h
    · rw [if_neg h3]
      have h4 := h1.2 h2
      refine ⟨rfl, h1.1, h4.1, h4.2.2, fun h5 => ?_⟩
      rcases Nat.lt_or_ge R.2.i ts.length with h6 | h6
      · exact h6
      · exact absurd ⟨h5, Nat.le_antisymm h4.1 h6⟩ h3
  · rw [if_pos h2] at h
    exact absurd h h2
/-- The rest of a recipient from the token i on. -/
def recR2 (ts : List Tk) (nm : ByteArray) (d : Int) (i : Nat) : Except (Int × Nat) Rc :=
  if ¬ (i + 1 < ts.length ∧ (ts.getD (i + 1) Tk.no).k = 4) then .error (2, i + 1)
  else if (expV ts (i + 2) sTo).1 ≠ 0 then .error (expV ts (i + 2) sTo)
  else if ¬ (i + 3 < ts.length ∧ (ts.getD (i + 3) Tk.no).k = 4) then .error (2, i + 3)
  else if (ts.getD (i + 3) Tk.no).n < (ts.getD (i + 1) Tk.no).n then .error (6, i + 3)
  else if (expV ts (i + 4) sFor).1 ≠ 0 then .error (expV ts (i + 4) sFor)
  else if (setR kindsL emp ts (i + 5)).2.code ≠ 0 then .error ((setR kindsL emp ts (i + 5)).2.code, (setR kindsL emp ts (i + 5)).2.pos)
  else .ok ⟨nm, d, (ts.getD (i + 1) Tk.no).n, (ts.getD (i + 3) Tk.no).n, (setR kindsL emp ts (i + 5)).1⟩
/-- A recipient whose first word is right, or the first fault. -/
def recR (ts : List Tk) : Except (Int × Nat) Rc :=
  if (expV ts 1 emp).1 ≠ 0 then .error (expV ts 1 emp)
  else if (expV ts 2 sDays).1 ≠ 0 then .error (expV ts 2 sDays)
  else if (setR daysL sFrom ts 3).2.code ≠ 0 then .error ((setR daysL sFrom ts 3).2.code, (setR daysL sFrom ts 3).2.pos)
  else recR2 ts (ts.getD 1 Tk.no).tx (setR daysL sFrom ts 3).1 (setR daysL sFrom ts 3).2.i
theorem f75_p31_sp {ts : List Tk} (ht : Tks ts) (hl : ts.length < 2 ^ 58) {full b full2 : Bool} {ks : List (List PC)} {la : Int} {i : Nat} (hi : i < ts.length) {nm z1 : ByteArray} {d z2 z3 z4 z5 z6 z7 z8 y1 y2 y3 y4 y5 : Int} {K : Int → Int → Int → Int → Int → Int → Prop}
    (hk : i + 1 < ts.length ∧ (ts.getD (i + 1) Tk.no).k = 4)
    (h1 : ∀ r, recR2 ts nm d i = .ok r → K r.fr r.to r.kinds 0 0 0) (h2 : ∀ c p, recR2 ts nm d i = .error (c, p) → c ≠ 0 → ∀ l m n, K l m n c la (colV ts p)) :
    f75_p31 i (ts.map Tk.c) full b ks full2 la z1 z2 z3 z4 z5 z6 z7 z8 nm d y1 y2 y3 y4 y5 0 K := by
  unfold f75_p31
  unfold recR2 at h1 h2
  rw [if_neg (fun hc => hc hk)] at h1 h2
  obtain ⟨hj, _⟩ := hk
  have E1 : ∀ {c : Int}, c ≠ 0 → lnV la c = la := fun hc => if_neg hc
  have E2 : ∀ {c : Int} {p : Nat}, c ≠ 0 → clV ts c p = colV ts p := fun hc => if_neg hc
  have w1 : w64 ((i : Int) + 1) = ((i + 1 : Nat) : Int) := by rw [w64_in (by omega) (by omega)]; rfl
  have w2 : w64 ((i : Int) + 2) = ((i + 2 : Nat) : Int) := by rw [w64_in (by omega) (by omega)]; rfl
  have w3 : w64 ((i : Int) + 3) = ((i + 3 : Nat) : Int) := by rw [w64_in (by omega) (by omega)]; rfl
  have w4 : w64 ((i : Int) + 4) = ((i + 4 : Nat) : Int) := by rw [w64_in (by omega) (by omega)]; rfl
  have w5 : w64 ((i : Int) + 5) = ((i + 5 : Nat) : Int) := by rw [w64_in (by omega) (by omega)]; rfl
  rw [w1, w2, w3]
  refine ⟨rngM _ _ hj, ?_⟩
  rw [toNat_c, getD_map _ _ _ hj]
  simp only [Tk.c, ext_0, ext_s, ext_z, cS_c, cI_c, cB_c, cL_c, cO_c, oS_c, oI_c, oB_c, oL_c, nilC_c, toNat_c]
  rw [getD_in _ _ hj] at h1 h2
  refine f73_ok ht (i := i + 2) (w := sTo) (bB_of (fun g5 => ?_) fun g5 => ?_)
  · have g6 : (expV ts (i + 2) sTo).1 ≠ 0 := by simpa using g5
    rw [if_pos g6] at h2
    rw [E1 g6, E2 g6]
    exact h2 _ _ rfl g6 _ _ _
  have g6 : (expV ts (i + 2) sTo).1 = 0 := by simpa using g5
  rw [if_neg (fun hc => hc g6)] at h1 h2
  rw [List.length_map]
  refine bB_of (fun g7 => ?_) fun g7 => ?_
  · rw [decide_eq_true_eq] at g7
    rw [if_pos (by omega)] at h2
    exact f74_ok ht.len (h2 _ _ rfl (by decide) _ _ _)
  rw [decide_eq_false_iff_not] at g7
  have hj3 : i + 3 < ts.length := by omega
  have hr3 := rngM Tk.c _ hj3
  rw [List.length_map] at hr3
  refine ⟨hr3, ?_⟩
  rw [getD_map _ _ _ hj3]
  simp only [Tk.c, ext_0, ext_s, ext_z, cS_c, cI_c, cB_c, cL_c, cO_c, oS_c, oI_c, oB_c, oL_c, nilC_c, toNat_c]
  rw [getD_in _ _ hj3] at h1 h2
  refine bB_of (fun g8 => ?_) fun g8 => ?_
  · have g9 : ts[i + 3].k ≠ 4 := by simpa using g8
    rw [if_pos (fun hc => g9 hc.2)] at h2
    exact f74_ok ht.len (h2 _ _ rfl (by decide) _ _ _)
  have g9 : ts[i + 3].k = 4 := by simpa using g8
  rw [if_neg (fun hc => hc ⟨hj3, g9⟩)] at h1 h2
  unfold f75_p43
  rw [w3, w4, w5]
  refine ⟨rngM _ _ hj3, ?_⟩
  rw [toNat_c, getD_map _ _ _ hj3]
  simp only [Tk.c, ext_0, ext_s, ext_z, cS_c, cI_c, cB_c, cL_c, cO_c, oS_c, oI_c, oB_c, oL_c, nilC_c, toNat_c]
  refine bB_of (fun k1 => ?_) fun k1 => ?_
  · rw [if_pos (by simpa using k1)] at h2
    exact f74_ok ht.len (h2 _ _ rfl (by decide) _ _ _)
  rw [if_neg (by simpa using k1)] at h1 h2
  refine f73_ok ht (i := i + 4) (w := sFor) (bB_of (fun g5 => ?_) fun g5 => ?_)
  · have g6 : (expV ts (i + 4) sFor).1 ≠ 0 := by simpa using g5
    rw [if_pos g6] at h2
    rw [E1 g6, E2 g6]
    exact h2 _ _ rfl g6 _ _ _
  have g6 : (expV ts (i + 4) sFor).1 = 0 := by simpa using g5
  rw [if_neg (fun hc => hc g6)] at h1 h2
  have hj4 := exp_le g6
  refine f43_ok (f99_ok hl (i0 := i + 5) (e := emp) (ws := kindsL) (by decide) (by omega) ?_)
  by_cases hc : (setR kindsL emp ts (i + 5)).2.code = 0
  · rw [if_neg (fun h => h hc)] at h1
    rw [St.ln0 hc, St.col0 hc, hc]
    exact h1 _ rfl
  · rw [if_pos hc] at h2
    rw [St.ln, St.col, if_neg hc, if_neg hc]
    exact h2 _ _ rfl hc _ _ _
theorem f75_ok {ts : List Tk} (ht : Tks ts) (hl : ts.length < 2 ^ 58) {full b full2 : Bool} {ks : List (List PC)} {la : Int} {K : ByteArray → Int → Int → Int → Int → Int → Int → Int → Prop}
    (h1 : ∀ r, recR ts = .ok r → K r.nm r.days r.fr r.to r.kinds 0 0 0) (h2 : ∀ c p, recR ts = .error (c, p) → c ≠ 0 → ∀ s j l m n, K s j l m n c la (colV ts p)) : f75 (ts.map Tk.c) full b ks full2 la K := by
  refine ⟨?_⟩
  unfold f75_d
  unfold recR at h1 h2
  have E1 : ∀ {c : Int}, c ≠ 0 → lnV la c = la := fun hc => if_neg hc
  have E2 : ∀ {c : Int} {p : Nat}, c ≠ 0 → clV ts c p = colV ts p := fun hc => if_neg hc
  refine f73_ok ht (i := 1) (w := emp) (bB_of (fun g3 => ?_) fun g3 => ?_)
  · have g4 : (expV ts 1 emp).1 ≠ 0 := by simpa using g3
    rw [if_pos g4] at h2
    rw [E1 g4, E2 g4]
    exact h2 _ _ rfl g4 _ _ _ _ _
  have g4 : (expV ts 1 emp).1 = 0 := by simpa using g3
  have hj1 := exp_le g4
  rw [if_neg (fun h => h g4)] at h1 h2
  refine ⟨rngM _ _ hj1, ?_⟩
  rw [getD_map _ _ _ hj1]
  simp only [Tk.c, ext_0, ext_s, ext_z, cS_c, cI_c, cB_c, cL_c, cO_c, oS_c, oI_c, oB_c, oL_c, nilC_c, toNat_c]
  rw [getD_in _ _ hj1] at h1 h2
  refine f73_ok ht (i := 2) (w := sDays) (bB_of (fun g5 => ?_) fun g5 => ?_)
  · have g6 : (expV ts 2 sDays).1 ≠ 0 := by simpa using g5
    rw [if_pos g6] at h2
    rw [E1 g6, E2 g6]
    exact h2 _ _ rfl g6 _ _ _ _ _
  have g6 : (expV ts 2 sDays).1 = 0 := by simpa using g5
  have hj2 := exp_le g6
  rw [if_neg (fun h => h g6)] at h1 h2
  refine ⟨f44_ok ⟨?_, ?_⟩, f44_ok ?_⟩ <;> refine f99_ok hl (i0 := 3) (e := sFrom) (ws := daysL) (by decide) (by omega) ?_
  all_goals
    by_cases hc : (setR daysL sFrom ts 3).2.code = 0
    · rw [if_neg (fun h => h hc)] at h1 h2
      have hs := setR_ok (ws := daysL) (e := sFrom) (i := 3) (ts := ts) (by decide) (by omega) hc
      have hi := hs.2.2.2.2 (by decide)
      generalize setR daysL sFrom ts 3 = S at hc hi h1 h2 ⊢
      rw [St.ln0 hc, St.col0 hc, hc]
      refine bB_f rfl ?_
      have w1 : w64 ((S.2.i : Int) + 1) = ((S.2.i + 1 : Nat) : Int) := by rw [w64_in (by omega) (by omega)]; rfl
      rw [w1, List.length_map]
      have bad : ¬ (S.2.i + 1 < ts.length ∧ (ts.getD (S.2.i + 1) Tk.no).k = 4) → f74 2 (ts.map Tk.c) full b ks full2 la ((S.2.i + 1 : Nat) : Int) (fun n21 n22 n23 => K ts[1].tx S.1 0 0 0 n21 n22 n23) := fun hb => by
        unfold recR2 at h2
        rw [if_pos hb] at h2
        exact f74_ok ht.len (h2 _ _ rfl (by decide) _ _ _ _ _)
      refine bB_of (fun k1 => bad ?_) fun k1 => ?_
      · rw [decide_eq_true_eq] at k1; omega
      · rw [decide_eq_false_iff_not] at k1
        have hj : S.2.i + 1 < ts.length := by omega
        have hr := rngM Tk.c _ hj
        rw [List.length_map] at hr
        refine ⟨hr, ?_⟩
        rw [toNat_c, getD_map _ _ _ hj]
        simp only [Tk.c, ext_0, ext_s, ext_z, cS_c, cI_c, cB_c, cL_c, cO_c, oS_c, oI_c, oB_c, oL_c, nilC_c, toNat_c]
        refine bB_of (fun k2 => bad ?_) fun k2 => ?_
        · rw [getD_in _ _ hj]
          intro hc2
          rw [hc2.2] at k2; cases k2
        · refine f75_p31_sp ht hl hi ⟨hj, by rw [getD_in _ _ hj]; simpa using k2⟩ (fun r hr => ?_) fun c p hr hc => ?_
          · have := h1 r hr
            have e : r.nm = ts[1].tx ∧ r.days = S.1 := by
              unfold recR2 at hr
              repeat' split at hr
              all_goals first | (cases hr; done) | (cases hr; exact ⟨rfl, rfl⟩)
            rw [e.1, e.2] at this
            exact this
          · exact h2 c p hr hc _ _
    · rw [if_pos hc] at h2
      rw [St.ln, St.col, if_neg hc, if_neg hc]
      exact bB_t (by simpa using hc) (h2 _ _ rfl hc _ _ _ _ _)
end Go.Eng.N
