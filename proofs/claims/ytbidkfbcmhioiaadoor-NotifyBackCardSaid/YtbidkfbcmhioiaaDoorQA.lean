/- Notify, pure: the reader of tokens, 1. -/
import Derived.Test.YtbidkfbcmhioiaaDoorPJ
import Derived.Test.YtbidkfbcmhioiaaDoorFn2
import Derived.Test.YtbidkfbcmhioiaaDoorFn1
set_option linter.unusedVariables false
set_option linter.unusedSimpArgs false
namespace Go.Eng.N
open Go Go.Eng
structure Tk where
  k : Int
  tx : ByteArray
  n : Int
  at_ : Int
def Tk.c (t : Tk) : List PC := [pI t.k, pS t.tx, pI t.n, pI t.at_]
def emp : ByteArray := ⟨#[]⟩
def Tk.no : Tk := ⟨0, emp, 0, 0⟩
/-- Where a reader is, the code of its fault, and the token of the fault. -/
structure St where
  i : Nat
  code : Int
  pos : Nat
/-- The column of a fault at a token. -/
def colV (ts : List Tk) (i : Nat) : Int := if ts.length = 0 then 1 else (ts.getD (min i (ts.length - 1)) Tk.no).at_
def St.ln (s : St) (la : Int) : Int := if s.code = 0 then 0 else la
def St.col (s : St) (ts : List Tk) : Int := if s.code = 0 then 0 else colV ts s.pos
theorem St.ln0 {s : St} {la : Int} (h : s.code = 0) : s.ln la = 0 := if_pos h
theorem St.col0 {s : St} {ts : List Tk} (h : s.code = 0) : s.col ts = 0 := if_pos h
def failS (e : Int) (p : Nat) (s : St) : St := if s.code ≠ 0 then s else ⟨s.i, e, p⟩
/-- Is the next token of a kind and, where it is not empty, a spelling? -/
def isT (ts : List Tk) (k : Int) (tx : ByteArray) (s : St) : Bool := match ts[s.i]? with
  | none => false
  | some t => decide (t.k = k) && (decide (tx = emp) || decide (t.tx = tx))
def takeS (ts : List Tk) (k : Int) (tx : ByteArray) (s : St) : Tk × St :=
  if s.code ≠ 0 then (Tk.no, s) else if isT ts k tx s = true then (ts.getD s.i Tk.no, ⟨s.i + 1, 0, 0⟩) else (Tk.no, ⟨s.i, 2, s.i⟩)
def nameS (ts : List Tk) (s : St) : ByteArray × St :=
  ((takeS ts 1 emp s).1.tx, if (takeS ts 1 emp s).2.code = 0 ∧ nameB (takeS ts 1 emp s).1.tx = false then failS 4 ((takeS ts 1 emp s).2.i - 1) (takeS ts 1 emp s).2 else (takeS ts 1 emp s).2)
/-- A line's tokens, as they are read. -/
structure Tks (ts : List Tk) : Prop where
  len : ts.length < 2 ^ 59
  tx : ∀ t ∈ ts, t.tx.size < 2 ^ 59
abbrev RK := (List (List PC)) → Bool → Bool → (List (List PC)) → Bool → Int → Int → Int → Int → Int → Prop
section
variable {ts : List Tk} {full b full2 : Bool} {ks : List (List PC)} {la : Int} {s : St}
theorem f67_ok {es : List (List PC)} {i c l o : Int} {K : Bool → RK} (h : K (c == 0) es full b ks full2 la i c l o) : f67 es full b ks full2 la i c l o K := ⟨h⟩
theorem isT_lt {k : Int} {tx : ByteArray} (h : isT ts k tx s = true) : s.i < ts.length := by
  unfold isT at h
  split at h
  · cases h
  · rename_i e; exact (List.getElem?_eq_some_iff.1 e).1
theorem f68_ok (hl : ts.length < 2 ^ 59) {e : Int} {p : Nat} (he : e ≠ 0) {K : RK} (h : K (ts.map Tk.c) full b ks full2 la s.i (failS e p s).code ((failS e p s).ln la) ((failS e p s).col ts)) :
    f68 e p (ts.map Tk.c) full b ks full2 la s.i s.code (s.ln la) (s.col ts) K := by
  refine ⟨?_⟩
  unfold f68_d
  refine f67_ok ?_
  by_cases h0 : s.code = 0
  · have e1 : failS e p s = ⟨s.i, e, p⟩ := by unfold failS; rw [if_neg (by simpa using h0)]
    rw [e1] at h
    simp only [St.ln, St.col, if_neg he] at h
    refine bB_f (by simp [h0]) (bB_of (fun h1 => ?_) fun h1 => ?_)
    · rw [List.length_map] at h1 ⊢
      simp only [decide_eq_true_eq] at h1
      have e2 : w64 ((ts.length : Int) - 1) = ((ts.length - 1 : Nat) : Int) := by rw [w64_in (by omega) (by omega)]; omega
      have e3 : (if ((ts.length - 1 : Nat) : Int) < (p : Int) then ((ts.length - 1 : Nat) : Int) else (p : Int)) = ((min p (ts.length - 1) : Nat) : Int) := by split <;> omega
      rw [e2, e3]
      have hj : min p (ts.length - 1) < ts.length := by omega
      have e4 : colV ts p = ts[min p (ts.length - 1)].at_ := by unfold colV; rw [if_neg (by omega), getD_in _ _ hj]
      rw [e4] at h
      refine ⟨by omega, ?_⟩
      rw [toNat_c, getD_map _ _ _ hj]
      simp only [Tk.c, ext_0, ext_s, ext_z, cS_c, cI_c, cB_c, cL_c, cO_c, oS_c, oI_c, oB_c, oL_c, nilC_c, toNat_c]
      unfold f68_p11
      exact h
    · rw [List.length_map] at h1
      simp only [decide_eq_false_iff_not] at h1
      have e4 : colV ts p = 1 := by unfold colV; rw [if_pos (by omega)]
      rw [e4] at h
      unfold f68_p11
      exact h
  · have e1 : failS e p s = s := by unfold failS; rw [if_pos h0]
    rw [e1] at h
    exact bB_t (by simp [h0]) h
theorem f69_ok {K : Bool → RK} (h : K (decide (s.code = 0) && decide (s.i < ts.length)) (ts.map Tk.c) full b ks full2 la s.i s.code (s.ln la) (s.col ts)) :
    f69 (ts.map Tk.c) full b ks full2 la s.i s.code (s.ln la) (s.col ts) K := by
  refine ⟨?_⟩
  unfold f69_d
  refine f67_ok (bB_of (fun h1 => ?_) fun h1 => ?_)
  · have h0 : s.code = 0 := by simpa using h1
    have e1 : decide ((s.i : Int) < (((ts.map Tk.c).length : Nat) : Int)) = decide (s.i < ts.length) := by rw [List.length_map, decide_eq_decide]; omega
    rw [e1]
    rw [decide_eq_true h0, Bool.true_and] at h
    exact h
  · have h0 : s.code ≠ 0 := by simpa using h1
    rw [decide_eq_false h0, Bool.false_and] at h
    exact h
theorem f96_ok {k : Int} {tx : ByteArray} {K : Bool → RK} (h : K (decide (s.code = 0) && isT ts k tx s) (ts.map Tk.c) full b ks full2 la s.i s.code (s.ln la) (s.col ts)) :
    f96 k tx (ts.map Tk.c) full b ks full2 la s.i s.code (s.ln la) (s.col ts) K := by
  refine ⟨?_⟩
  unfold f96_d
  refine f69_ok (bB_of (fun h1 => ?_) fun h1 => ?_)
  · simp only [Bool.and_eq_true, decide_eq_true_eq] at h1
    obtain ⟨h0, hj⟩ := h1
    have e1 : isT ts k tx s = (decide (ts[s.i].k = k) && (decide (tx = emp) || decide (ts[s.i].tx = tx))) := by unfold isT; rw [List.getElem?_eq_getElem hj]
    rw [decide_eq_true h0, Bool.true_and, e1] at h
    refine ⟨rngM _ _ hj, ?_⟩
    rw [toNat_c, getD_map _ _ _ hj]
    simp only [Tk.c, ext_0, ext_s, ext_z, cS_c, cI_c, cB_c, cL_c, cO_c, oS_c, oI_c, oB_c, oL_c, nilC_c, toNat_c]
    refine bB_of (fun h2 => ?_) fun h2 => ?_
    · rw [beq_iff_eq] at h2
      rw [decide_eq_true h2, Bool.true_and] at h
      refine bB_of (fun h3 => ?_) fun h3 => ⟨rngM _ _ hj, ?_⟩
      · rw [beqL, decide_eq_true_eq] at h3
        rw [decide_eq_true (show tx = emp from h3), Bool.true_or] at h
        exact h
      · rw [beqL, decide_eq_false_iff_not] at h3
        rw [decide_eq_false (show ¬ tx = emp from h3), Bool.false_or] at h
        rw [beqL]
        exact h
    · rw [beq_eq_false_iff_ne] at h2
      rw [decide_eq_false h2, Bool.false_and] at h
      exact h
  · have e2 : (decide (s.code = 0) && isT ts k tx s) = false := by
      rw [Bool.eq_false_iff]
      intro hc
      simp only [Bool.and_eq_true, decide_eq_true_eq] at hc
      rw [decide_eq_true hc.1, decide_eq_true (isT_lt hc.2)] at h1
      cases h1
    rw [e2] at h
    exact h
theorem f65_ok (hl : ts.length < 2 ^ 59) {k : Int} {tx : ByteArray} {K : Int → ByteArray → Int → Int → RK}
    (h : K (takeS ts k tx s).1.k (takeS ts k tx s).1.tx (takeS ts k tx s).1.n (takeS ts k tx s).1.at_ (ts.map Tk.c) full b ks full2 la (takeS ts k tx s).2.i (takeS ts k tx s).2.code ((takeS ts k tx s).2.ln la) ((takeS ts k tx s).2.col ts)) :
    f65 k tx (ts.map Tk.c) full b ks full2 la s.i s.code (s.ln la) (s.col ts) K := by
  refine ⟨?_⟩
  unfold f65_d
  refine f67_ok (bB_of (fun h1 => f96_ok (bB_of (fun h2 => f68_ok hl (s := s) (e := 2) (p := s.i) (by decide) ?_) fun h2 => ?_)) fun h1 => ?_)
  · have h0 : s.code = 0 := by simpa using h1
    have h2 : isT ts k tx s = false := by rw [decide_eq_true h0] at h2; simpa using h2
    have e1 : takeS ts k tx s = (Tk.no, ⟨s.i, 2, s.i⟩) := by unfold takeS; rw [if_neg (by simpa using h0), if_neg (by simp [h2])]
    have e2 : failS 2 s.i s = ⟨s.i, 2, s.i⟩ := by unfold failS; rw [if_neg (by simpa using h0)]
    rw [e1] at h
    rw [e2]
    unfold f65_p7
    exact f67_ok (bB_t rfl h)
  · have h0 : s.code = 0 := by simpa using h1
    have h2 : isT ts k tx s = true := by rw [decide_eq_true h0] at h2; simpa using h2
    have hj := isT_lt h2
    have e1 : takeS ts k tx s = (ts[s.i], ⟨s.i + 1, 0, 0⟩) := by unfold takeS; rw [if_neg (by simpa using h0), if_pos h2, getD_in _ _ hj]
    rw [e1] at h
    unfold f65_p7
    refine f67_ok (bB_f (by simp [h0]) ?_)
    have e3 : w64 (w64 ((s.i : Int) + 1) - 1) = (s.i : Int) := by rw [w64_in (n := (s.i : Int) + 1) (by omega) (by omega), w64_in (by omega) (by omega)]; omega
    rw [e3]
    refine ⟨rngM _ _ hj, ?_⟩
    rw [toNat_c, getD_map _ _ _ hj]
    simp only [Tk.c, ext_0, ext_s, ext_z, cS_c, cI_c, cB_c, cL_c, cO_c, oS_c, oI_c, oB_c, oL_c, nilC_c, toNat_c]
    rw [w64_s _ (by omega), St.ln0 h0, St.col0 h0, h0]
    exact h
  · have h0 : s.code ≠ 0 := by simpa using h1
    have e1 : takeS ts k tx s = (Tk.no, s) := by unfold takeS; rw [if_pos h0]
    rw [e1] at h
    unfold f65_p7
    exact f67_ok (bB_t (by simp [h0]) h)
theorem takeS_tx (ht : Tks ts) {k : Int} {tx : ByteArray} : (takeS ts k tx s).1.tx.size < 2 ^ 59 := by
  unfold takeS
  split
  · show emp.size < 2 ^ 59
    decide
  · split
    · rename_i h2
      have hj := isT_lt h2
      show (ts.getD s.i Tk.no).tx.size < _
      rw [getD_in _ _ hj]
      exact ht.tx _ (List.getElem_mem hj)
    · show emp.size < 2 ^ 59
      decide
theorem takeS_pos {k : Int} {tx : ByteArray} (h : (takeS ts k tx s).2.code = 0) : s.code = 0 ∧ isT ts k tx s = true ∧ (takeS ts k tx s) = (ts.getD s.i Tk.no, ⟨s.i + 1, 0, 0⟩) := by
  unfold takeS at h ⊢
  split at h
  · exact absurd h (by assumption)
  · rename_i h0
    split at h
    · rename_i h2
      rw [if_neg h0, if_pos h2]
      exact ⟨by simpa using h0, h2, rfl⟩
    · cases h
theorem f66_ok (ht : Tks ts) {K : ByteArray → RK}
    (h : K (nameS ts s).1 (ts.map Tk.c) full b ks full2 la (nameS ts s).2.i (nameS ts s).2.code ((nameS ts s).2.ln la) ((nameS ts s).2.col ts)) :
    f66 (ts.map Tk.c) full b ks full2 la s.i s.code (s.ln la) (s.col ts) K := by
  refine ⟨?_⟩
  unfold f66_d
  refine f65_ok ht.len (k := 1) (tx := emp) (f67_ok (bB_of (fun h1 => f45_ok (takeS_tx ht) (bB_of (fun h2 => ?_) fun h2 => ?_)) fun h1 => ?_))
  · have h0 : (takeS ts 1 emp s).2.code = 0 := by simpa using h1
    have e1 : nameS ts s = ((takeS ts 1 emp s).1.tx, failS 4 ((takeS ts 1 emp s).2.i - 1) (takeS ts 1 emp s).2) := by unfold nameS; rw [if_pos ⟨h0, by simpa using h2⟩]
    rw [e1] at h
    have e4 := (takeS_pos h0).2.2
    have hj := isT_lt (takeS_pos h0).2.1
    have hll := ht.len
    have e5 : (takeS ts 1 emp s).2.i = s.i + 1 := by rw [e4]
    have e2 : w64 (((takeS ts 1 emp s).2.i : Int) - 1) = (((takeS ts 1 emp s).2.i - 1 : Nat) : Int) := by rw [e5, w64_in (by omega) (by omega)]; omega
    rw [e2]
    refine f68_ok ht.len (by decide) ?_
    have e3 : ∀ (e : Int) (p : Nat) (y : St), (failS e p y).i = y.i := fun e p y => by unfold failS; split <;> rfl
    simp only [e3] at h
    exact h
  · have e1 : nameS ts s = ((takeS ts 1 emp s).1.tx, (takeS ts 1 emp s).2) := by unfold nameS; rw [if_neg (by rintro ⟨_, h4⟩; rw [h4] at h2; cases h2)]
    rw [e1] at h; exact h
  · have h0 : (takeS ts 1 emp s).2.code ≠ 0 := by simpa using h1
    have e1 : nameS ts s = ((takeS ts 1 emp s).1.tx, (takeS ts 1 emp s).2) := by unfold nameS; rw [if_neg (fun hc => h0 hc.1)]
    rw [e1] at h; exact h
end
end Go.Eng.N
