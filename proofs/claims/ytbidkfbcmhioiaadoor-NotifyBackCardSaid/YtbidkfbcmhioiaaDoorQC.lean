/- Notify, pure: the reader of tokens, 3: the reference's functions. -/
import Derived.Test.YtbidkfbcmhioiaaDoorQB
import Derived.Test.YtbidkfbcmhioiaaDoorFn2
set_option linter.unusedVariables false
set_option linter.unusedSimpArgs false
namespace Go.Eng.N
open Go Go.Eng
def lnV (la c : Int) : Int := if c = 0 then 0 else la
def clV (ts : List Tk) (c : Int) (p : Nat) : Int := if c = 0 then 0 else colV ts p
/-- What the reference says of a word at an index. -/
def expV (ts : List Tk) (i : Nat) (w : ByteArray) : Int × Nat := if isT ts 1 w ⟨i, 0, 0⟩ = false then (2, i) else if w = emp ∧ nameB (ts.getD i Tk.no).tx = false then (4, i) else (0, 0)
/-- What the reference reads as a set. -/
def setR (ws : List ByteArray) (e : ByteArray) (ts : List Tk) (i : Nat) : Nat × St :=
  if (setL ws e true 0 i (ts.drop i)).2.code ≠ 0 then (0, ⟨0, (setL ws e true 0 i (ts.drop i)).2.code, (setL ws e true 0 i (ts.drop i)).2.pos⟩)
  else if e ≠ emp ∧ (setL ws e true 0 i (ts.drop i)).2.i = ts.length then (0, ⟨0, 2, ts.length⟩) else setL ws e true 0 i (ts.drop i)
section
variable {ts : List Tk} {full b full2 fw : Bool} {ks : List (List PC)} {la : Int} {s : St} {ws : List ByteArray} {e : ByteArray}
theorem f74_ok (hl : ts.length < 2 ^ 59) {c : Int} {p : Nat} {K : Int → Int → Int → Prop} (h : K c la (colV ts p)) : f74 c (ts.map Tk.c) full b ks full2 la p K := by
  refine ⟨?_⟩
  unfold f74_d
  rw [List.length_map]
  unfold colV at h
  refine bB_of (fun h1 => ?_) fun h1 => ?_
  · simp only [decide_eq_true_eq] at h1
    rw [if_neg (by omega)] at h
    refine bB_of (fun h2 => ?_) fun h2 => ?_
    · simp only [decide_eq_true_eq] at h2
      have e2 : w64 ((ts.length : Int) - 1) = ((ts.length - 1 : Nat) : Int) := by rw [w64_in (by omega) (by omega)]; omega
      rw [e2]
      have hj : ts.length - 1 < ts.length := by omega
      rw [Nat.min_eq_right (by omega), getD_in _ _ hj] at h
      refine ⟨by omega, ?_⟩
      rw [toNat_c, getD_map _ _ _ hj]
      simp only [Tk.c, ext_0, ext_s, ext_z, cS_c, cI_c, cB_c, cL_c, cO_c, oS_c, oI_c, oB_c, oL_c, nilC_c, toNat_c]
      exact h
    · simp only [decide_eq_false_iff_not] at h2
      have hj : p < ts.length := by omega
      rw [Nat.min_eq_left (by omega), getD_in _ _ hj] at h
      refine ⟨by omega, ?_⟩
      rw [toNat_c, getD_map _ _ _ hj]
      simp only [Tk.c, ext_0, ext_s, ext_z, cS_c, cI_c, cB_c, cL_c, cO_c, oS_c, oI_c, oB_c, oL_c, nilC_c, toNat_c]
      exact h
  · simp only [decide_eq_false_iff_not] at h1
    rw [if_pos (by omega)] at h
    exact h
theorem f73_ok (ht : Tks ts) {i : Nat} {w : ByteArray} {K : Int → Int → Int → Prop} (h : K (expV ts i w).1 (lnV la (expV ts i w).1) (clV ts (expV ts i w).1 (expV ts i w).2)) : f73 (ts.map Tk.c) full b ks full2 la i w K := by
  refine ⟨?_⟩
  unfold f73_d
  unfold expV at h
  have bad : isT ts 1 w ⟨i, 0, 0⟩ = false → f74 2 (ts.map Tk.c) full b ks full2 la i K := fun h1 => by
    rw [if_pos h1] at h
    exact f74_ok ht.len h
  refine bB_of (fun h1 => bad ?_) fun h1 => ?_
  · rw [List.length_map] at h1
    simp only [decide_eq_true_eq] at h1
    rw [Bool.eq_false_iff]
    intro hc
    have := isT_lt hc
    simp only at this
    omega
  · rw [List.length_map] at h1
    simp only [decide_eq_false_iff_not] at h1
    have hj : i < ts.length := by omega
    have e1 : isT ts 1 w ⟨i, 0, 0⟩ = (decide (ts[i].k = 1) && (decide (w = emp) || decide (ts[i].tx = w))) := by unfold isT; dsimp only; rw [List.getElem?_eq_getElem hj]
    refine ⟨rngM _ _ hj, ?_⟩
    rw [toNat_c, getD_map _ _ _ hj]
    simp only [Tk.c, ext_0, ext_s, ext_z, cS_c, cI_c, cB_c, cL_c, cO_c, oS_c, oI_c, oB_c, oL_c, nilC_c, toNat_c]
    refine bB_of (fun h2 => bad ?_) fun h2 => ?_
    · rw [e1, decide_eq_false (by simpa using h2), Bool.false_and]
    · have hk : ts[i].k = 1 := by simpa using h2
      rw [decide_eq_true hk, Bool.true_and] at e1
      have fin : isT ts 1 w ⟨i, 0, 0⟩ = true → f73_p7 i w (ts.map Tk.c) full b ks full2 la 0 0 0 K := fun h3 => by
        rw [if_neg (by rw [h3]; decide)] at h
        unfold f73_p7
        refine bB_of (fun h4 => ⟨rngM _ _ hj, ?_⟩) fun h4 => ?_
        · rw [toNat_c, getD_map _ _ _ hj]
          simp only [Tk.c, ext_0, ext_s, ext_z, cS_c, cI_c, cB_c, cL_c, cO_c, oS_c, oI_c, oB_c, oL_c, nilC_c, toNat_c]
          have hw : w = emp := by rw [beqL] at h4; simpa [emp] using h4
          rw [getD_in _ _ hj] at h
          refine f50_ok (ht.tx _ (List.getElem_mem hj)) (bB_of (fun h5 => ?_) fun h5 => ?_)
          · rw [if_pos ⟨hw, by simpa using h5⟩] at h
            exact f74_ok ht.len h
          · rw [if_neg (by rintro ⟨_, h6⟩; rw [h6] at h5; cases h5)] at h
            exact h
        · have hw : w ≠ emp := by rw [beqL] at h4; simpa [emp] using h4
          rw [if_neg (fun hc => hw hc.1)] at h
          exact h
      refine bB_of (fun h3 => ⟨rngM _ _ hj, ?_⟩) fun h3 => fin ?_
      · have hw : w ≠ emp := by rw [beqL] at h3; simpa [emp] using h3
        rw [decide_eq_false hw, Bool.false_or] at e1
        refine bB_of (fun h4 => bad ?_) fun h4 => fin ?_
        · rw [e1]
          rw [beqL] at h4
          simpa using h4
        · rw [e1]
          rw [beqL] at h4
          simpa using h4
      · have hw : w = emp := by rw [beqL] at h3; simpa [emp] using h3
        rw [e1, decide_eq_true hw, Bool.true_or]
theorem f99_ok (hl : ts.length < 2 ^ 58) (hw : ws.length ≤ 7) {i0 : Nat} (hi : i0 ≤ ts.length) {K : Int → Int → Int → Int → Int → Prop}
    (h : K (setR ws e ts i0).1 (setR ws e ts i0).2.i (setR ws e ts i0).2.code ((setR ws e ts i0).2.ln la) ((setR ws e ts i0).2.col ts)) : f99 (ts.map Tk.c) full b ks full2 la i0 (ws.map sc) fw e K := by
  refine ⟨?_⟩
  unfold f99_d f99_p6
  have hl2 : ts.length < 2 ^ 59 := by omega
  unfold setR at h
  generalize hR : setL ws e true 0 i0 (ts.drop i0) = R at h
  refine LoopP.inv (ts.length + 1 - i0) (fun j x => ∃ (first : Bool) (out i : Nat), x = ((i : Int), (out : Int), first) ∧ out < 2 ^ 7 ∧ i ≤ ts.length ∧ i0 + j = i ∧ setL ws e first out i (ts.drop i) = R) 0 ⟨true, 0, i0, rfl, by decide, hi, rfl, hR⟩ (Nat.zero_le _) (by omega) ?_ ?_
  · rintro j x _ hj ⟨first, out, i, rfl, ho, h1, h2, h3⟩ N hN
    unfold f99_p6b0
    dsimp only
    have err : ∀ (i : Nat) (c : Int), c ≠ 0 → R.2.code = c → R.2.pos = i → f74 c (ts.map Tk.c) full b ks full2 la i (fun n41 n42 n43 => K 0 0 n41 n42 n43) := fun i c hc h4 h5 => by
      rw [if_pos (by rw [h4]; exact hc)] at h
      rw [h4, h5] at h
      simp only [St.ln, St.col, if_neg hc] at h
      exact f74_ok hl2 h
    have hk := wordS_ok hw ho h1
    have body : (first = true ∨ i < ts.length) → f99_p11 i (ws.map sc) fw e out first (ts.map Tk.c) full b ks full2 la 0 0 0 (fun n115 n116 n117 n118 n119 => K n115 n116 n117 n118 n119) (fun n120 n121 b122 => N (n120, n121, b122)) := by
      intro hf
      unfold f99_p11
      rw [List.length_map]
      cases hd : ts.drop i with
      | nil =>
        have hlen := List.drop_eq_nil_iff.1 hd
        have hft : first = true := hf.resolve_right (by omega)
        rw [hd, setL, if_pos hft] at h3
        exact bB_t (by simpa using hlen) (err i 2 (by decide) (by rw [← h3]) (by rw [← h3]))
      | cons t r =>
        obtain ⟨g1, g2, g3⟩ := drop_cons hd
        have et : ts[i] = t := by rw [List.getElem?_eq_getElem g3] at g1; exact Option.some.inj g1
        have hr : 0 ≤ (i : Int) ∧ (i : Int) < (((ts.map Tk.c).length : Nat) : Int) := rngM _ _ g3
        rw [List.length_map] at hr
        refine bB_f (by simp; omega) ⟨hr, ?_⟩
        rw [toNat_c, getD_map _ _ _ g3, et]
        simp only [Tk.c, ext_0, ext_s, ext_z, cS_c, cI_c, cB_c, cL_c, cO_c, oS_c, oI_c, oB_c, oL_c, nilC_c, toNat_c]
        rw [hd, setL] at h3
        have stp : ¬ (first = false ∧ e ≠ emp ∧ t.k = 1 ∧ t.tx = e) → t.k = 1 → f99_p19 i (ws.map sc) fw e out (ts.map Tk.c) full b ks full2 la 0 0 0 (fun n115 n116 n117 n118 n119 => K n115 n116 n117 n118 n119) (fun n120 n121 => N (n120, n121, false)) := by
          intro hn h4
          rw [if_neg hn, if_neg (by simpa using h4)] at h3
          unfold f99_p19
          refine ⟨rngM _ _ g3, ?_⟩
          rw [toNat_c, getD_map _ _ _ g3, et]
          simp only [Tk.c, ext_0, ext_s, ext_z, cS_c, cI_c, cB_c, cL_c, cO_c, oS_c, oI_c, oB_c, oL_c, nilC_c, toNat_c]
          refine f102_ok (by omega) ?_
          unfold idxI
          cases hx : idxW ws t.tx with
          | none =>
            rw [hx] at h3
            exact bB_t rfl (err i 2 (by decide) (by rw [← h3]) (by rw [← h3]))
          | some k =>
            rw [hx] at h3
            dsimp only at h3
            have hk : k < 7 := Nat.lt_of_lt_of_le (idxW_lt hx) hw
            dsimp only
            refine bB_f (by simp) (f84_ok hk (bB_of (fun h5 => ?_) fun h5 => ⟨by rw [IntWalk.u64_in _ (by omega)]; omega, ?_⟩))
            · rw [if_pos h5] at h3
              exact err i 5 (by decide) (by rw [← h3]) (by rw [← h3])
            · rw [if_neg (by simp [h5])] at h3
              rw [IntWalk.u64_in _ (by omega), mask_add ho hk h5, w64_s _ (by omega)]
              exact hN _ ⟨false, out ||| 2 ^ k, i + 1, rfl, mask_lt ho hk, g3, by omega, by rw [g2]; exact h3⟩
        refine bB_of (fun h4 => ?_) fun h4 => ?_
        · have h5 : t.k ≠ 1 := by simpa using h4
          rw [if_neg (fun hc => h5 hc.2.2.1), if_pos h5] at h3
          exact err i 2 (by decide) (by rw [← h3]) (by rw [← h3])
        · have h5 : t.k = 1 := by simpa using h4
          unfold f99_p15
          refine bB_of (fun h6 => bB_of (fun h7 => ⟨rngM _ _ g3, ?_⟩) fun h7 => stp ?_ h5) fun h6 => stp ?_ h5
          · rw [toNat_c, getD_map _ _ _ g3, et]
            simp only [Tk.c, ext_0, ext_s, ext_z, cS_c, cI_c, cB_c, cL_c, cO_c, oS_c, oI_c, oB_c, oL_c, nilC_c, toNat_c]
            have hne : e ≠ emp := by rw [beqL] at h7; simpa [emp] using h7
            refine bB_of (fun h8 => ?_) fun h8 => stp ?_ h5
            · rw [beqL, decide_eq_true_eq] at h8
              rw [if_pos ⟨by simpa using h6, hne, h5, h8⟩] at h3
              rw [← h3] at h
              rw [if_neg (by simp), if_neg (by rintro ⟨_, hc⟩; simp only at hc; omega)] at h
              exact h
            · rw [beqL, decide_eq_false_iff_not] at h8
              exact fun hc => h8 hc.2.2.2
          · have hne : e = emp := by rw [beqL] at h7; simpa [emp] using h7
            exact fun hc => hc.2.1 hne
          · exact fun hc => by rw [hc.1] at h6; cases h6
    refine bB_of (fun hf => ?_) fun hf => ?_
    · subst hf; exact body (Or.inl rfl)
    · rw [List.length_map]
      refine bB_of (fun h4 => ?_) fun h4 => ?_
      · subst hf; exact body (Or.inr (by simpa using h4))
      · have h5 : i = ts.length := by simp only [decide_eq_false_iff_not] at h4; omega
        subst hf
        rw [setL_stop h1 (Or.inl h5)] at h3
        rw [← h3] at h
        rw [if_neg (by simp)] at h
        refine bB_of (fun h6 => ?_) fun h6 => ?_
        · have hne : e ≠ emp := by rw [beqL] at h6; simpa [emp] using h6
          rw [if_pos ⟨hne, h5⟩] at h
          rw [h5]
          exact f74_ok hl2 h
        · have hne : e = emp := by rw [beqL] at h6; simpa [emp] using h6
          rw [if_neg (fun hc => hc.1 hne)] at h
          exact h
  · rintro x ⟨first, out, i, rfl, ho, h1, h2, h3⟩ N
    omega
end
end Go.Eng.N
