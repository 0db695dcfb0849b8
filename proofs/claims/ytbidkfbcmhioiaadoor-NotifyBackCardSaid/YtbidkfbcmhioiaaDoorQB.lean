/- Notify, pure: the reader of tokens, 2: sets of words. -/
import Derived.Test.YtbidkfbcmhioiaaDoorQA
import Derived.Test.YtbidkfbcmhioiaaDoorPK3
import Derived.Test.YtbidkfbcmhioiaaDoorFn2
set_option linter.unusedVariables false
set_option linter.unusedSimpArgs false
namespace Go.Eng.N
open Go Go.Eng
def idxW (ws : List ByteArray) (s : ByteArray) : Option Nat := ws.findIdx? (fun x => decide (x = s))
def idxI (ws : List ByteArray) (s : ByteArray) : Int := match idxW ws s with
  | none => -1
  | some k => k
/-- Words of a list, from the tokens r on (which begin at the index i): what was read, and where the reader is then. -/
def setL (ws : List ByteArray) (e : ByteArray) : Bool → Nat → Nat → List Tk → Nat × St
  | first, out, i, [] => (out, if first = true then ⟨i, 2, i⟩ else ⟨i, 0, 0⟩)
  | first, out, i, t :: r =>
    if first = false ∧ e ≠ emp ∧ t.k = 1 ∧ t.tx = e then (out, ⟨i, 0, 0⟩)
    else if t.k ≠ 1 then (out, ⟨i, 2, i⟩)
    else match idxW ws t.tx with
      | none => (out, ⟨i + 1, 2, i⟩)
      | some k => if out.testBit k = true then (out, ⟨i + 1, 5, i⟩) else setL ws e false (out ||| 2 ^ k) (i + 1) r
def setS (ws : List ByteArray) (e : ByteArray) (ts : List Tk) (s : St) : Nat × St := if s.code ≠ 0 then (0, s) else setL ws e true 0 s.i (ts.drop s.i)
theorem idxW_lt {ws : List ByteArray} {s : ByteArray} {k : Nat} (h : idxW ws s = some k) : k < ws.length := (List.findIdx?_eq_some_iff_findIdx_eq.1 h).1
theorem find_idx {ws : List ByteArray} {s : ByteArray} {j : Nat} (hj : j < ws.length) (hq : decide (ws[j] = s) = true) (hb : ∀ i (hi : i < j), decide (ws[i]'(Nat.lt_trans hi hj) = s) = false) : idxI ws s = (j : Int) := by
  have : idxW ws s = some j := by
    unfold idxW
    rw [List.findIdx?_eq_some_iff_getElem]
    exact ⟨hj, hq, fun i hi => by simpa using hb i hi⟩
  unfold idxI; rw [this]
theorem find_none {ws : List ByteArray} {s : ByteArray} (h : ∀ x ∈ ws, decide (x = s) = false) : idxI ws s = -1 := by
  have : idxW ws s = none := by
    unfold idxW
    rw [List.findIdx?_eq_none_iff]
    exact h
  unfold idxI; rw [this]
theorem f97_ok {ws : List ByteArray} (hw : ws.length < 2 ^ 59) {full : Bool} {s : ByteArray} {K : Int → Prop} (h : K (idxI ws s)) : f97 (ws.map sc) full s K := by
  refine ⟨?_⟩
  unfold f97_d f97_p4
  refine LoopP.find ws (fun x => decide (x = s)) (A := fun j => K (j : Int)) (B := K (-1)) hw (fun j hj hq hb => ?_) (fun hq => ?_) (fun j hj N hA hN => ?_) fun N hB => ?_
  · rw [← find_idx hj hq hb]; exact h
  · rw [← find_none hq]; exact h
  · unfold f97_p4b0
    refine bB_t (ltM _ _ hj) ⟨rngM _ _ hj, ?_⟩
    rw [toNat_c, getD_map _ _ _ hj]
    simp only [sc, ext_0, ext_s, ext_z, cS_c, cI_c, cB_c, cL_c, cO_c, oS_c, oI_c, oB_c, oL_c, nilC_c, toNat_c]
    rw [beqL, w64_s j (by omega)]
    refine bB_of (fun h1 => hA ?_) fun h1 => hN ?_
    · simp only [decide_eq_true_eq] at h1 ⊢; exact h1.symm
    · simp only [decide_eq_false_iff_not] at h1 ⊢; exact fun hc => h1 hc.symm
  · unfold f97_p4b0
    exact bB_f (stopM _ _) hB
theorem f102_ok {ws : List ByteArray} (hw : ws.length < 2 ^ 59) {full : Bool} {s : ByteArray} {K : Int → Prop} (h : K (idxI ws s)) : f102 (ws.map sc) full s K := by
  refine ⟨?_⟩
  unfold f102_d f102_p4
  refine LoopP.find ws (fun x => decide (x = s)) (A := fun j => K (j : Int)) (B := K (-1)) hw (fun j hj hq hb => ?_) (fun hq => ?_) (fun j hj N hA hN => ?_) fun N hB => ?_
  · rw [← find_idx hj hq hb]; exact h
  · rw [← find_none hq]; exact h
  · unfold f102_p4b0
    refine bB_t (ltM _ _ hj) ⟨rngM _ _ hj, ?_⟩
    rw [toNat_c, getD_map _ _ _ hj]
    simp only [sc, ext_0, ext_s, ext_z, cS_c, cI_c, cB_c, cL_c, cO_c, oS_c, oI_c, oB_c, oL_c, nilC_c, toNat_c]
    rw [beqL, w64_s j (by omega)]
    exact bB_of hA hN
  · unfold f102_p4b0
    exact bB_f (stopM _ _) hB
/-! ### Masks -/
theorem mask_lt {a k n : Nat} (ha : a < 2 ^ n) (hk : k < n) : a ||| 2 ^ k < 2 ^ n := Nat.or_lt_two_pow ha (Nat.pow_lt_pow_right (by decide) hk)
theorem mask_bit {a k : Nat} (ha : a < 2 ^ 7) (hk : k < 7) : ((IntKind.wrap .i64 (BitVec.toNat (BitVec.ofInt 64 (Int.fdiv (a : Int) (2 ^ (min (Int.toNat (k : Int)) 64))) &&& BitVec.ofInt 64 1)) : Int) == 1) = a.testBit k := by
  rw [shrI _ _ (by omega)]
  have h1 : a / 2 ^ k ≤ a := Nat.div_le_self _ _
  have h2 := andI (a / 2 ^ k) 1 (by omega) (by decide)
  rw [show ((1 : Nat) : Int) = 1 from rfl] at h2
  rw [h2, ← bit1]
  generalize a / 2 ^ k &&& 1 = z
  rw [Bool.eq_iff_iff]; simp; omega
theorem mask_or {a k : Nat} (ha : a < 2 ^ 7) (hk : k < 7) : (IntKind.wrap .i64 (BitVec.toNat (BitVec.ofInt 64 (a : Int) ||| BitVec.ofInt 64 (IntKind.wrap .i64 (1 * 2 ^ (min (Int.toNat (k : Int)) 64)))))) = ((a ||| 2 ^ k : Nat) : Int) := by
  rw [shlI _ (by omega)]
  have h1 : 2 ^ k < 2 ^ 7 := Nat.pow_lt_pow_right (by decide) hk
  exact orI _ _ (by omega) (by omega)
theorem mask_add {a k : Nat} (ha : a < 2 ^ 7) (hk : k < 7) (h : a.testBit k = false) : w64 ((a : Int) + IntKind.wrap .i64 (1 * 2 ^ (min (Int.toNat (k : Int)) 64))) = ((a ||| 2 ^ k : Nat) : Int) := by
  rw [shlI _ (by omega)]
  have h1 : 2 ^ k < 2 ^ 7 := Nat.pow_lt_pow_right (by decide) hk
  have h2 : a ||| 2 ^ k = a + 2 ^ k := by
    have : ∀ a : Fin 128, ∀ k : Fin 7, a.1.testBit k.1 = false → a.1 ||| 2 ^ k.1 = a.1 + 2 ^ k.1 := by decide +kernel
    exact this ⟨a, ha⟩ ⟨k, hk⟩ h
  rw [h2, w64_in (by omega) (by omega)]
  push_cast; rfl
/-- One word. -/
def wordS (ws : List ByteArray) (ts : List Tk) (out : Nat) (s : St) : Nat × St :=
  let p := takeS ts 1 emp s
  if p.2.code ≠ 0 then (out, p.2) else match idxW ws p.1.tx with
    | none => (out, ⟨p.2.i, 2, p.2.i - 1⟩)
    | some k => if out.testBit k = true then (out, ⟨p.2.i, 5, p.2.i - 1⟩) else (out ||| 2 ^ k, p.2)
section
variable {ts : List Tk} {full b full2 fw : Bool} {ks : List (List PC)} {la : Int} {s : St} {ws : List ByteArray} {e : ByteArray}
theorem f70_p11_sp (hl : ts.length < 2 ^ 59) (hw : ws.length ≤ 7) {out : Nat} (ho : out < 2 ^ 7) {K : Int → Bool → RK}
    (h : K (wordS ws ts out s).1 false (ts.map Tk.c) full b ks full2 la (wordS ws ts out s).2.i (wordS ws ts out s).2.code ((wordS ws ts out s).2.ln la) ((wordS ws ts out s).2.col ts)) :
    f70_p11 (ws.map sc) fw e out (ts.map Tk.c) full b ks full2 la s.i s.code (s.ln la) (s.col ts) K := by
  unfold f70_p11
  refine f65_ok hl (k := 1) (tx := emp) (f97_ok (by omega) (f67_ok ?_))
  unfold wordS at h
  dsimp only at h
  by_cases h0 : (takeS ts 1 emp s).2.code = 0
  · rw [if_neg (by simpa using h0)] at h
    refine bB_f (by simp [h0]) ?_
    have e4 := (takeS_pos h0).2.2
    have hj := isT_lt (takeS_pos h0).2.1
    have e5 : (takeS ts 1 emp s).2.i = s.i + 1 := by rw [e4]
    have e2 : w64 (((takeS ts 1 emp s).2.i : Int) - 1) = (((takeS ts 1 emp s).2.i - 1 : Nat) : Int) := by rw [e5, w64_in (by omega) (by omega)]; omega
    have e3 : ∀ (c : Int) (p : Nat), failS c p (takeS ts 1 emp s).2 = ⟨(takeS ts 1 emp s).2.i, c, p⟩ := fun c p => by unfold failS; rw [if_neg (by simpa using h0)]
    unfold idxI
    cases hi : idxW ws (takeS ts 1 emp s).1.tx with
    | none =>
      rw [hi] at h
      refine bB_t rfl ?_
      rw [e2]
      refine f68_ok hl (by decide) ?_
      rw [e3]; exact h
    | some k =>
      rw [hi] at h
      dsimp only at h
      have hk : k < 7 := Nat.lt_of_lt_of_le (idxW_lt hi) hw
      refine bB_f (by simp) ⟨by simp, ?_⟩
      dsimp only
      rw [mask_bit ho hk]
      refine bB_of (fun h1 => ?_) fun h1 => ⟨by simp, ?_⟩
      · rw [if_pos h1] at h
        rw [e2]
        refine f68_ok hl (by decide) ?_
        rw [e3]; exact h
      · rw [if_neg (by simp [h1])] at h
        rw [mask_or ho hk]
        exact h
  · rw [if_pos h0] at h
    exact bB_t (by simpa using h0) h
theorem drop_cons {i : Nat} {t : Tk} {r : List Tk} (h : ts.drop i = t :: r) : ts[i]? = some t ∧ ts.drop (i + 1) = r ∧ i < ts.length := by
  have h1 : (ts.drop i)[0]? = some t := by rw [h]; rfl
  rw [List.getElem?_drop, Nat.add_zero] at h1
  refine ⟨h1, ?_, (List.getElem?_eq_some_iff.1 h1).1⟩
  have h2 : (ts.drop i).drop 1 = r := by rw [h]; rfl
  rw [List.drop_drop] at h2
  exact h2
theorem wordS_at {i out : Nat} {t : Tk} {r : List Tk} (h : ts.drop i = t :: r) : wordS ws ts out ⟨i, 0, 0⟩ = if t.k ≠ 1 then (out, ⟨i, 2, i⟩) else match idxW ws t.tx with
    | none => (out, ⟨i + 1, 2, i⟩)
    | some k => if out.testBit k = true then (out, ⟨i + 1, 5, i⟩) else (out ||| 2 ^ k, ⟨i + 1, 0, 0⟩) := by
  obtain ⟨h1, _, h3⟩ := drop_cons h
  have h4 : isT ts 1 emp ⟨i, 0, 0⟩ = decide (t.k = 1) := by unfold isT; dsimp only; rw [h1]; simp
  have h5 : ts.getD i Tk.no = t := by rw [List.getD_eq_getElem?_getD, h1]; rfl
  have T : takeS ts 1 emp ⟨i, 0, 0⟩ = if t.k = 1 then (t, ⟨i + 1, 0, 0⟩) else (Tk.no, ⟨i, 2, i⟩) := by
    unfold takeS
    rw [if_neg (fun hc => hc rfl), h4, h5]
    simp only [decide_eq_true_eq]
  unfold wordS
  dsimp only
  rw [T]
  by_cases hk : t.k = 1
  · rw [if_pos hk, if_neg (fun hc => hc rfl), if_neg (fun hc => hc hk)]
    dsimp only
    rw [Nat.add_sub_cancel]
  · rw [if_neg hk, if_pos (show (2 : Int) ≠ 0 by decide), if_pos hk]
theorem wordS_end {i out : Nat} (h : ts.drop i = []) : wordS ws ts out ⟨i, 0, 0⟩ = (out, ⟨i, 2, i⟩) := by
  have h1 : ts[i]? = none := by rw [List.getElem?_eq_none_iff]; exact List.drop_eq_nil_iff.1 h
  have h4 : isT ts 1 emp ⟨i, 0, 0⟩ = false := by unfold isT; dsimp only; rw [h1]
  have T : takeS ts 1 emp ⟨i, 0, 0⟩ = (Tk.no, ⟨i, 2, i⟩) := by
    unfold takeS
    rw [if_neg (fun hc => hc rfl), h4, if_neg (by decide)]
  unfold wordS
  dsimp only
  rw [T, if_pos (show (2 : Int) ≠ 0 by decide)]
theorem setL_step {first : Bool} {out i : Nat} (hg : first = true ∨ (i < ts.length ∧ ¬ (e ≠ emp ∧ isT ts 1 e ⟨i, 0, 0⟩ = true))) :
    setL ws e first out i (ts.drop i) = if (wordS ws ts out ⟨i, 0, 0⟩).2.code ≠ 0 then wordS ws ts out ⟨i, 0, 0⟩ else setL ws e false (wordS ws ts out ⟨i, 0, 0⟩).1 (i + 1) (ts.drop (i + 1)) := by
  cases hd : ts.drop i with
  | nil =>
    have hf : first = true := by
      rcases hg with h | h
      · exact h
      · have := List.drop_eq_nil_iff.1 hd; omega
    rw [wordS_end hd, if_pos (show (2 : Int) ≠ 0 by decide)]
    unfold setL
    rw [if_pos hf]
  | cons t r =>
    obtain ⟨h1, h2, h3⟩ := drop_cons hd
    rw [wordS_at hd, h2]
    have hn : ¬ (first = false ∧ e ≠ emp ∧ t.k = 1 ∧ t.tx = e) := by
      rintro ⟨a, b, c, d⟩
      rcases hg with h | h
      · rw [h] at a; cases a
      · refine h.2 ⟨b, ?_⟩
        unfold isT; dsimp only; rw [h1]; simp [c, d]
    rw [setL, if_neg hn]
    split
    · rw [if_pos (show (2 : Int) ≠ 0 by decide)]
    · cases idxW ws t.tx with
      | none => dsimp only; rw [if_pos (show (2 : Int) ≠ 0 by decide)]
      | some k =>
        dsimp only
        split
        · rw [if_pos (show (5 : Int) ≠ 0 by decide)]
        · rw [if_neg (fun hc => hc rfl)]
theorem setL_stop {out i : Nat} (hi : i ≤ ts.length) (hg : i = ts.length ∨ (e ≠ emp ∧ isT ts 1 e ⟨i, 0, 0⟩ = true)) : setL ws e false out i (ts.drop i) = (out, ⟨i, 0, 0⟩) := by
  cases hd : ts.drop i with
  | nil => rfl
  | cons t r =>
    obtain ⟨h1, h2, h3⟩ := drop_cons hd
    rcases hg with h | ⟨h, h4⟩
    · omega
    · unfold isT at h4
      dsimp only at h4
      rw [h1] at h4
      have h5 : t.k = 1 ∧ t.tx = e := by
        simp only [Bool.and_eq_true, decide_eq_true_eq, Bool.or_eq_true] at h4
        exact ⟨h4.1, h4.2.resolve_left h⟩
      rw [setL, if_pos ⟨rfl, h, h5⟩]
theorem wordS_ok {out i : Nat} (hw : ws.length ≤ 7) (ho : out < 2 ^ 7) (hi : i ≤ ts.length) : (wordS ws ts out ⟨i, 0, 0⟩).1 < 2 ^ 7 ∧ ((wordS ws ts out ⟨i, 0, 0⟩).2.code = 0 → (wordS ws ts out ⟨i, 0, 0⟩).2 = ⟨i + 1, 0, 0⟩ ∧ i < ts.length) := by
  cases hd : ts.drop i with
  | nil => rw [wordS_end hd]; exact ⟨ho, fun h => by cases h⟩
  | cons t r =>
    obtain ⟨h1, h2, h3⟩ := drop_cons hd
    rw [wordS_at hd]
    split
    · exact ⟨ho, fun h => by cases h⟩
    · cases hx : idxW ws t.tx with
      | none => exact ⟨ho, fun h => by cases h⟩
      | some k =>
        have hk : k < 7 := Nat.lt_of_lt_of_le (idxW_lt hx) hw
        dsimp only
        split
        · exact ⟨ho, fun h => by cases h⟩
        · exact ⟨mask_lt ho hk, fun _ => ⟨rfl, h3⟩⟩
/-- What a set leaves. -/
theorem setL_ok (hw : ws.length ≤ 7) : ∀ (n : Nat) {first : Bool} {out i : Nat}, ts.length - i = n → i ≤ ts.length → out < 2 ^ 7 → (setL ws e first out i (ts.drop i)).1 < 2 ^ 7 ∧ ((setL ws e first out i (ts.drop i)).2.code = 0 → (setL ws e first out i (ts.drop i)).2.i ≤ ts.length ∧ i ≤ (setL ws e first out i (ts.drop i)).2.i ∧ (setL ws e first out i (ts.drop i)).2.pos = 0) := by
  intro n
  induction n with
  | zero =>
    intro first out i hn hi ho
    have hd : ts.drop i = [] := List.drop_eq_nil_iff.2 (by omega)
    rw [hd]
    cases first
    · exact ⟨ho, fun _ => ⟨hi, Nat.le_refl _, rfl⟩⟩
    · exact ⟨ho, fun h => by cases h⟩
  | succ n ih =>
    intro first out i hn hi ho
    by_cases hg : first = true ∨ (i < ts.length ∧ ¬ (e ≠ emp ∧ isT ts 1 e ⟨i, 0, 0⟩ = true))
    · rw [setL_step hg]
      have h1 := wordS_ok hw ho hi
      split
      · rename_i h2; exact ⟨h1.1, fun h => absurd h h2⟩
      · rename_i h2
        have h3 := ih (first := false) (out := (wordS ws ts out ⟨i, 0, 0⟩).1) (i := i + 1) (by omega) (by omega) h1.1
        exact ⟨h3.1, fun h => ⟨(h3.2 h).1, by have := (h3.2 h).2.1; omega, (h3.2 h).2.2⟩⟩
    · have hf : first = false := by
        cases first
        · rfl
        · exact absurd (Or.inl rfl) hg
      subst hf
      have hs : e ≠ emp ∧ isT ts 1 e ⟨i, 0, 0⟩ = true := by
        by_cases hc : e ≠ emp ∧ isT ts 1 e ⟨i, 0, 0⟩ = true
        · exact hc
        · exact absurd (Or.inr ⟨by omega, hc⟩) hg
      rw [setL_stop hi (Or.inr hs)]
      exact ⟨ho, fun _ => ⟨hi, Nat.le_refl _, rfl⟩⟩
theorem f70_ok (hl : ts.length < 2 ^ 58) (hw : ws.length ≤ 7) (hi : s.code = 0 → s.i ≤ ts.length) {K : Int → RK}
    (h : K (setS ws e ts s).1 (ts.map Tk.c) full b ks full2 la (setS ws e ts s).2.i (setS ws e ts s).2.code ((setS ws e ts s).2.ln la) ((setS ws e ts s).2.col ts)) :
    f70 (ws.map sc) fw e (ts.map Tk.c) full b ks full2 la s.i s.code (s.ln la) (s.col ts) K := by
  refine ⟨?_⟩
  unfold f70_d f70_p6
  have hl2 : ts.length < 2 ^ 59 := by omega
  generalize hR : setS ws e ts s = R at h
  refine LoopP.inv (ts.length + 1 - s.i) (fun j x => ∃ (first : Bool) (out : Nat) (st : St), x = ((out : Int), first, ts.map Tk.c, full, b, ks, full2, la, (st.i : Int), st.code, st.ln la, st.col ts) ∧ out < 2 ^ 7 ∧
      ((st.code = 0 ∧ st.i ≤ ts.length ∧ s.i + j = st.i ∧ setL ws e first out st.i (ts.drop st.i) = R) ∨ (st.code ≠ 0 ∧ (out, st) = R))) 0 ?_ (Nat.zero_le _) (by omega) ?_ ?_
  · refine ⟨true, 0, s, rfl, by decide, ?_⟩
    unfold setS at hR
    by_cases h0 : s.code = 0
    · rw [if_neg (by simpa using h0)] at hR
      exact Or.inl ⟨h0, hi h0, rfl, hR⟩
    · rw [if_pos h0] at hR
      exact Or.inr ⟨h0, hR⟩
  · rintro j x _ hj ⟨first, out, st, rfl, ho, hc⟩ N hN
    unfold f70_p6b0
    dsimp only
    rcases hc with ⟨h0, h1, h2, h3⟩ | ⟨h0, h1⟩
    · have ew : ∀ o, wordS ws ts o st = wordS ws ts o ⟨st.i, 0, 0⟩ := fun o => by
        have T : takeS ts 1 emp st = takeS ts 1 emp ⟨st.i, 0, 0⟩ := by
          unfold takeS
          rw [if_neg (fun hc => hc h0), if_neg (c := (⟨st.i, 0, 0⟩ : St).code ≠ 0) (fun hc => hc rfl)]
          rfl
        unfold wordS
        rw [T]
      refine f67_ok (bB_t (by simpa using h0) ?_)
      have go : (first = true ∨ (st.i < ts.length ∧ ¬ (e ≠ emp ∧ isT ts 1 e ⟨st.i, 0, 0⟩ = true))) → f70_p11 (ws.map sc) fw e out (ts.map Tk.c) full b ks full2 la st.i st.code (st.ln la) (st.col ts) (fun n100 b101 es102 full103 b104 es105 full106 n107 n108 n109 n110 n111 => N (n100, b101, es102, full103, b104, es105, full106, n107, n108, n109, n110, n111)) := by
        intro hg
        refine f70_p11_sp hl2 hw ho (hN _ ?_)
        rw [ew]
        have hk := wordS_ok hw ho h1
        rw [setL_step hg] at h3
        refine ⟨false, (wordS ws ts out ⟨st.i, 0, 0⟩).1, (wordS ws ts out ⟨st.i, 0, 0⟩).2, rfl, hk.1, ?_⟩
        by_cases h4 : (wordS ws ts out ⟨st.i, 0, 0⟩).2.code = 0
        · rw [if_neg (by simpa using h4)] at h3
          have h5 := (hk.2 h4).1
          have h6 := (hk.2 h4).2
          refine Or.inl ⟨h4, ?_, ?_, ?_⟩
          · rw [h5]; exact h6
          · rw [h5]; show s.i + (j + 1) = st.i + 1; omega
          · rw [h5]; exact h3
        · rw [if_pos h4] at h3
          exact Or.inr ⟨h4, h3⟩
      have stop : first = false → (st.i = ts.length ∨ (e ≠ emp ∧ isT ts 1 e ⟨st.i, 0, 0⟩ = true)) → K out (ts.map Tk.c) full b ks full2 la st.i st.code (st.ln la) (st.col ts) := by
        intro hf hg
        rw [hf, setL_stop h1 hg] at h3
        rw [← h3] at h
        rw [St.ln0 h0, St.col0 h0, h0]
        exact h
      refine bB_of (fun hf => go (Or.inl hf)) fun hf => f69_ok (bB_of (fun h4 => ?_) fun h4 => ?_)
      · have h5 : st.i < ts.length := by simp only [Bool.and_eq_true, decide_eq_true_eq] at h4; exact h4.2
        have ei : isT ts 1 e st = isT ts 1 e ⟨st.i, 0, 0⟩ := rfl
        refine bB_of (fun h6 => ?_) fun h6 => ?_
        · have h7 : e ≠ emp := by rw [beqL] at h6; simpa [emp] using h6
          refine f96_ok (bB_of (fun h8 => go (Or.inr ⟨h5, ?_⟩)) fun h8 => stop hf (Or.inr ⟨h7, ?_⟩))
          · rintro ⟨_, h9⟩
            rw [ei, h9, decide_eq_true h0] at h8
            cases h8
          · rw [ei, decide_eq_true h0] at h8
            simpa using h8
        · have h7 : e = emp := by rw [beqL] at h6; simpa [emp] using h6
          exact go (Or.inr ⟨h5, fun h9 => h9.1 h7⟩)
      · have h5 : st.i = ts.length := by
          rw [decide_eq_true h0, Bool.true_and, decide_eq_false_iff_not] at h4
          omega
        exact stop hf (Or.inl h5)
    · refine f67_ok (bB_f (by simpa using h0) ?_)
      rw [← h1] at h
      exact h
  · rintro x ⟨first, out, st, rfl, ho, hc⟩ N
    unfold f70_p6b0
    dsimp only
    rcases hc with ⟨h0, h1, h2, h3⟩ | ⟨h0, h1⟩
    · by_cases hq : s.i ≤ ts.length
      · omega
      · omega
    · refine f67_ok (bB_f (by simpa using h0) ?_)
      rw [← h1] at h
      exact h
end
end Go.Eng.N
