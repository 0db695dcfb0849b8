/- Taking a portion: what the program and the reference do, over lists. -/
import Derived.Test.YteclemahimldeaaPT1
import Derived.Test.YteclemahimldeaaQx12
set_option linter.unusedVariables false
set_option linter.unusedSimpArgs false
namespace Go.Proofs.Yteclemahimldeaa.PT
open Go.RowKit Go.Proofs.Yteclemahimldeaa.Q Go.Proofs.YteclemahimldeaaW.PrintWords Go.Proofs.YteclemahimldeaaW.PrintLast Go.Proofs.YteclemahimldeaaW.PrintMore

theorem rd_last (l : List S42) (p : S42) : rd_T42 (l ++ [p]) (l.length : Int) = p := by
  unfold rd_T42
  simp
/-- What a collection asks for next. -/
def asks (l : List S42) : Int := match l.getLast? with | none => 1 | some p => p.f0 + 1
theorem asks_nil : asks [] = 1 := rfl
theorem asks_last (l : List S42) (p : S42) : asks (l ++ [p]) = p.f0 + 1 := by simp [asks]
/-- A record behind a collection; two gaps become one. -/
def add (l : List S42) (r : S42) : List S42 := match l.getLast? with
  | none => [r]
  | some p => if 0 < p.f4 ∧ 0 < r.f4 then l.dropLast ++ [{ r with f4 := r.f4 + p.f4 }] else l ++ [r]
theorem add_nil (r : S42) : add [] r = [r] := rfl
theorem add_last (l : List S42) (p r : S42) : add (l ++ [p]) r = if 0 < p.f4 ∧ 0 < r.f4 then l ++ [{ r with f4 := r.f4 + p.f4 }] else l ++ [p] ++ [r] := by simp [add]
theorem add_len (l : List S42) (r : S42) : (add l r).length ≤ l.length + 1 := by
  rcases List.eq_nil_or_concat l with rfl | ⟨l, p, rfl⟩
  · simp [add_nil]
  · rw [List.concat_eq_append, add_last]
    split <;> simp
theorem add_asks (l : List S42) (r : S42) : asks (add l r) = r.f0 + 1 := by
  rcases List.eq_nil_or_concat l with rfl | ⟨l, p, rfl⟩
  · rw [add_nil]
    exact asks_last [] r
  · rw [List.concat_eq_append, add_last]
    split
    · rw [asks_last]
    · rw [asks_last]

/-- What is collected: whole numbers, gaps that say nothing besides. -/
def Fit (r : S42) : Prop := 1 ≤ r.f0 ∧ r.f0 ≤ 1000000000 ∧ 0 ≤ r.f4 ∧ r.f4 ≤ r.f0
def Pure (r : S42) : Prop := 0 < r.f4 → r.f1 = 0 ∧ r.f2.f0 = 0 ∧ r.f2.f1 = 0 ∧ r.f3 = 0
def gapS (a b : Int) : S42 := ⟨b, 0, ⟨0, 0⟩, 0, b - a + 1⟩
theorem S42.same {x y : S42} (h0 : x.f0 = y.f0) (h1 : x.f1 = y.f1) (h2 : x.f2.f0 = y.f2.f0) (h3 : x.f2.f1 = y.f2.f1) (h4 : x.f3 = y.f3) (h5 : x.f4 = y.f4) : x = y := by
  obtain ⟨a, b, ⟨c, d⟩, e, f⟩ := x
  obtain ⟨a', b', ⟨c', d'⟩, e', f'⟩ := y
  simp_all
theorem gapS_pure (r : S42) (h : 0 < r.f4) (hp : Pure r) (a : Int) (ha : fst r = a) : gapS a r.f0 = r := by
  obtain ⟨h1, h2, h3, h4⟩ := hp h
  unfold fst at ha
  rw [if_pos h] at ha
  exact S42.same rfl h1.symm h2.symm h3.symm h4.symm (by simp [gapS]; omega)

theorem put_f (l : List S42) (r : S42) (hl : l.length < 1000000000000) (hr : Fit r) (hp : ∀ p ∈ l, Fit p) : collect_put.f l r.f0 r.f1 r.f2.f0 r.f2.f1 r.f3 r.f4 = some (add l r) := by
  unfold collect_put.f
  rcases List.eq_nil_or_concat l with rfl | ⟨l, p, rfl⟩
  · rw [if_neg (by simp), if_pos (by simp)]
    rfl
  · rw [List.concat_eq_append] at *
    have hp1 := hp p (by simp)
    obtain ⟨a1, a2, a3, a4⟩ := hr
    obtain ⟨b1, b2, b3, b4⟩ := hp1
    have hw : wrap64 (((l ++ [p]).length : Int) - 1) = (l.length : Int) := by
      rw [w64 (by simp) (by simp at *; omega)]
      simp
    rw [hw, if_pos (by simp), if_pos (by omega), if_pos (by simp; omega), rd_last, add_last]
    by_cases c : p.f4 > 0
    · rw [if_pos c]
      by_cases d : r.f4 > 0
      · rw [if_pos d, if_pos (by simp; omega), if_pos ⟨c, d⟩]
        simp only [Option.bind_some, Int.toNat_natCast, List.take_left]
        rw [if_pos (by simp at hl; omega), w64 (by omega) (by omega)]
      · rw [if_neg d, if_pos (by omega), if_neg (fun e => d e.2)]
    · rw [if_neg c, if_pos (by omega), if_neg (fun e => c e.1)]
theorem cgap_f {a b : Int} (ha : -1000000000000 ≤ a ∧ a ≤ 1000000000000) (hb : -1000000000000 ≤ b ∧ b ≤ 1000000000000) : collect_gap.f a b = some ((gapS a b).f0, (gapS a b).f1, (gapS a b).f2.f0, (gapS a b).f2.f1, (gapS a b).f3, (gapS a b).f4) := by
  unfold collect_gap.f gapS
  rw [w64 (x := b - a) (by omega) (by omega), w64 (by omega) (by omega)]
theorem rgap_f {a b : Int} (ha : -1000000000000 ≤ a ∧ a ≤ 1000000000000) (hb : -1000000000000 ≤ b ∧ b ≤ 1000000000000) : plenumref42_gap.f a b = some ((gapS a b).f0, (gapS a b).f1, (gapS a b).f2.f0, (gapS a b).f2.f1, (gapS a b).f3, (gapS a b).f4) := by
  unfold plenumref42_gap.f gapS
  rw [w64 (x := b - a) (by omega) (by omega), w64 (by omega) (by omega)]
theorem fst_ok {r : S42} (h : Fit r) : 1 ≤ fst r ∧ fst r ≤ r.f0 := by
  obtain ⟨h1, h2, h3, h4⟩ := h
  unfold fst
  split <;> omega
theorem rfirst_f (r : S42) (h : Fit r) : plenumref42_First.f r.f0 r.f1 r.f2.f0 r.f2.f1 r.f3 r.f4 = some (fst r) := by
  obtain ⟨h1, h2, h3, h4⟩ := h
  unfold plenumref42_First.f fst
  by_cases c : 0 < r.f4
  · rw [if_pos c, if_pos c, w64 (x := r.f0 - r.f4) (by omega) (by omega), w64 (by omega) (by omega)]
  · rw [if_neg c, if_neg c]
theorem cleast_f (r : S42) (h : Fit r) : collect_least.f r.f0 r.f1 r.f2.f0 r.f2.f1 r.f3 r.f4 = some (fst r) := by
  obtain ⟨h1, h2, h3, h4⟩ := h
  unfold collect_least.f fst
  rw [mx1 h3]
  split
  · rw [w64 (x := r.f0 - r.f4) (by omega) (by omega), w64 (by omega) (by omega)]
  · rw [w64 (x := r.f0 - 1) (by omega) (by omega), w64 (by omega) (by omega)]
    congr 1
    omega
/-- The reference's add: a gap must follow at once. -/
theorem radd_f (l : List S42) (r : S42) (k : Nat) (hl : l.length < 1000000000000) (hr : Fit r) (hu : Pure r) (hp : ∀ p ∈ l, Fit p) (hf : fst r = asks l) (hk : 1 ≤ k) : plenumref42_add.f k l r.f0 r.f1 r.f2.f0 r.f2.f1 r.f3 r.f4 = some (add l r) := by
  obtain ⟨k, rfl, _⟩ := kof hk
  unfold plenumref42_add.f
  rcases List.eq_nil_or_concat l with rfl | ⟨l, p, rfl⟩
  · rw [if_neg (by simp)]
    simp only [plenumref42_add.j0]
    simp [add_nil]
  · rw [List.concat_eq_append] at *
    have hp1 := hp p (by simp)
    have hf1 := rfirst_f p hp1
    obtain ⟨a1, a2, a3, a4⟩ := hr
    obtain ⟨b1, b2, b3, b4⟩ := hp1
    have hw : wrap64 (((l ++ [p]).length : Int) - 1) = (l.length : Int) := by
      rw [w64 (by simp) (by simp at *; omega)]
      simp
    have hl2 : l.length + 1 < 1000000000000 := by simpa using hl
    rw [hw, if_pos (by simp), if_pos (by omega), if_pos (by simp; omega), rd_last, add_last]
    have hj : ∀ (b : Bool), b = decide (0 < p.f4 ∧ 0 < r.f4) → plenumref42_add.j0 (k + 1) (l ++ [p]) ((l ++ [p]).length : Int) b r.f0 r.f1 r.f2.f0 r.f2.f1 r.f3 r.f4 = some (if 0 < p.f4 ∧ 0 < r.f4 then l ++ [{ r with f4 := r.f4 + p.f4 }] else l ++ [p] ++ [r]) := by
      intro b hb
      simp only [plenumref42_add.j0]
      by_cases c : 0 < p.f4 ∧ 0 < r.f4
      · rw [if_pos (by rw [hb]; simpa using c), if_pos c, hw]
        simp only [Option.bind_some, List.nil_append, List.length_nil]
        rw [if_pos (by omega), if_pos (by simp; omega), Int.toNat_natCast, List.take_left, if_pos (by omega), if_pos (by simp; omega), rd_last, hf1]
        simp only [Option.bind_some]
        rw [rgap_f (by have := fst_ok (r := p) ⟨b1, b2, b3, b4⟩; omega) (by omega)]
        simp only [Option.bind_some]
        rw [if_pos (by simp; omega)]
        rw [asks_last] at hf
        unfold fst at hf
        rw [if_pos c.2] at hf
        obtain ⟨u1, u2, u3, u4⟩ := hu c.2
        congr 3
        refine S42.same rfl (by simp [gapS, u1]) (by simp [gapS, u2]) (by simp [gapS, u3]) (by simp [gapS, u4]) ?_
        simp only [gapS, fst]
        rw [if_pos c.1]
        omega
      · rw [if_neg (by rw [hb]; simpa using c), if_neg c]
        simp only [Option.bind_some, List.nil_append, List.length_nil]
        rw [if_pos (by simp; omega), if_pos (by simp; omega)]
    by_cases c : p.f4 > 0
    · rw [if_pos c]
      exact hj _ (by simp [c])
    · rw [if_neg c]
      exact hj _ (by simp; omega)
end Go.Proofs.Yteclemahimldeaa.PT
