/- What numbers comes to at the two forms. -/
import Derived.Test.YtipkgjbfannniaaDoorMT
set_option linter.unusedVariables false
namespace Go.Proofs.YtipkgjbfannniaaDoor.M
open Go.RowKit Go.Proofs.YtipkgjbfannniaaDoor.Q Go.Proofs.YtipkgjbfannniaaDoorW.PrintWords Go.Proofs.YtipkgjbfannniaaDoorW.PrintLast

/-- A round at a place that wants a digit. -/
theorem num_digit {k : Nat} {s form : ByteArray} {xs : List Int} {n i : Int} (h0 : 0 ≤ i) (h1 : i < n) (hs : n = s.size) (hf : n = form.size) (hn : n ≤ 1000) (h48 : bt form i = 48) (hx : 0 < xs.length) (hl : xs.length < 100)
    (hr : 0 ≤ rd xs ((xs.length : Int) - 1) ∧ rd xs ((xs.length : Int) - 1) ≤ 100000) :
    civil_numbers.l0 (k + 4) s form xs n i = if 48 ≤ bt s i ∧ bt s i ≤ 57 then civil_numbers.l0 k s form (xs.set (xs.length - 1) (10 * rd xs ((xs.length : Int) - 1) + (bt s i - 48))) n (i + 1) else some ([], false) := by
  have b := bt_range s i
  simp only [civil_numbers.l0]
  rw [if_pos h1, if_pos h0, if_pos (by omega)]
  have e1 : wrap64 ((xs.length : Int) - 1) = (xs.length : Int) - 1 := w64 (by omega) (by omega)
  have step : ∀ b1 : Bool, civil_numbers.j1 (k + 3) s form xs i b1 n i = if b1 = true then civil_numbers.l0 k s form (xs.set (xs.length - 1) (wrap64 (wrap64 (10 * rd xs ((xs.length : Int) - 1)) + (bt s i - 48) % 256))) n (i + 1) else some ([], false) := by
    intro b1
    simp only [civil_numbers.j1]
    rw [if_pos h0, if_pos (by omega), if_pos h48]
    simp only [civil_numbers.j2]
    rw [if_neg (by decide), if_pos h0, if_pos (by omega), if_pos h48]
    simp only [civil_numbers.j3]
    cases b1 with
    | false => simp
    | true =>
      simp only [Bool.not_true, Bool.false_eq_true, if_false, if_true]
      rw [if_pos h0, if_pos (by omega), if_pos h48, e1, if_pos (by omega), if_pos (by omega), if_pos (by omega), w64 (x := i + 1) (by omega) (by omega)]
      have e2 : ((xs.length : Int) - 1).toNat = xs.length - 1 := by omega
      rw [e2]
  by_cases c1 : bt s i ≥ 48
  · rw [if_pos c1, step]
    by_cases c2 : bt s i ≤ 57
    · rw [if_pos (by simpa using c2), if_pos ⟨c1, c2⟩]
      congr 2
      rw [w64 (x := 10 * rd xs ((xs.length : Int) - 1)) (by omega) (by omega)]
      have e3 : (bt s i - 48) % 256 = bt s i - 48 := by omega
      rw [e3, w64 (by omega) (by omega)]
    · rw [if_neg (by simpa using c2), if_neg (by omega)]
  · rw [if_neg c1, step, if_neg (by decide), if_neg (by omega)]
/-- A round at another place. -/
theorem num_other {k : Nat} {s form : ByteArray} {xs : List Int} {n i : Int} (h0 : 0 ≤ i) (h1 : i < n) (hs : n = s.size) (hf : n = form.size) (hn : n ≤ 1000) (h48 : bt form i ≠ 48) (hl : xs.length < 100) :
    civil_numbers.l0 (k + 4) s form xs n i = if bt s i = bt form i then civil_numbers.l0 k s form (xs ++ [0]) n (i + 1) else some ([], false) := by
  simp only [civil_numbers.l0]
  rw [if_pos h1, if_pos h0, if_pos (by omega)]
  have step : ∀ b1 : Bool, civil_numbers.j1 (k + 3) s form xs i b1 n i = if bt s i = bt form i then civil_numbers.l0 k s form (xs ++ [0]) n (i + 1) else some ([], false) := by
    intro b1
    simp only [civil_numbers.j1]
    rw [if_pos h0, if_pos (by omega), if_neg h48, if_pos (by omega)]
    simp only [civil_numbers.j2]
    by_cases c : bt s i = bt form i
    · have e : (bt s i != bt form i) = false := by simp [c]
      rw [e, if_neg (by decide), if_pos h0, if_pos (by omega), if_neg h48, if_pos c]
      simp only [civil_numbers.j3]
      rw [if_neg (by decide), if_pos h0, if_pos (by omega), if_neg h48, if_pos (by omega), w64 (x := i + 1) (by omega) (by omega)]
    · have e : (bt s i != bt form i) = true := by simp [c]
      rw [e, if_pos rfl, if_neg c]
      simp [civil_numbers.j3]
  split <;> exact step _
theorem num_end {k : Nat} {s form : ByteArray} {xs : List Int} {n : Int} : civil_numbers.l0 (k + 1) s form xs n n = some (xs, true) := by
  simp only [civil_numbers.l0]
  rw [if_neg (by omega)]

def Dig (s : ByteArray) (i : Int) : Prop := 48 ≤ bt s i ∧ bt s i ≤ 57
def dg (s : ByteArray) (i : Int) : Int := bt s i - 48
abbrev dateForm : ByteArray := ⟨#[48, 48, 48, 48, 45, 48, 48, 45, 48, 48]⟩
abbrev clockForm : ByteArray := ⟨#[48, 48, 58, 48, 48]⟩
def DateOk (s : ByteArray) : Prop := Dig s 0 ∧ Dig s 1 ∧ Dig s 2 ∧ Dig s 3 ∧ bt s 4 = 45 ∧ Dig s 5 ∧ Dig s 6 ∧ bt s 7 = 45 ∧ Dig s 8 ∧ Dig s 9
def ClockOk (s : ByteArray) : Prop := Dig s 0 ∧ Dig s 1 ∧ bt s 2 = 58 ∧ Dig s 3 ∧ Dig s 4
instance (s : ByteArray) (i : Int) : Decidable (Dig s i) := inferInstanceAs (Decidable (_ ∧ _))
instance (s : ByteArray) : Decidable (DateOk s) := inferInstanceAs (Decidable (_ ∧ _))
instance (s : ByteArray) : Decidable (ClockOk s) := inferInstanceAs (Decidable (_ ∧ _))

theorem rd1 (a : Int) : rd [a] (([a].length : Int) - 1) = a := rfl
theorem rd2 (a b : Int) : rd [a, b] (([a, b].length : Int) - 1) = b := rfl
theorem rd3 (a b c : Int) : rd [a, b, c] (([a, b, c].length : Int) - 1) = c := rfl

theorem dig_rounds {k : Nat} {s form : ByteArray} {xs : List Int} {n i a : Int} (ys : List Int) (hxs : xs = ys ++ [a]) (h0 : 0 ≤ i) (h1 : i < n) (hs : n = s.size) (hf : n = form.size) (hn : n ≤ 1000) (h48 : bt form i = 48) (hl : ys.length < 50)
    (hr : 0 ≤ a ∧ a ≤ 100000) : civil_numbers.l0 (k + 4) s form (ys ++ [a]) n i = if Dig s i then civil_numbers.l0 k s form (ys ++ [10 * a + dg s i]) n (i + 1) else some ([], false) := by
  have e1 : rd (ys ++ [a]) (((ys ++ [a]).length : Int) - 1) = a := by
    unfold rd
    have : (((ys ++ [a]).length : Int) - 1).toNat = ys.length := by simp
    rw [this]
    simp [List.getD]
  rw [num_digit h0 h1 hs hf hn h48 (by simp) (by simp; omega) (by rw [e1]; exact hr), e1]
  have e2 : (ys ++ [a]).set ((ys ++ [a]).length - 1) (10 * a + (bt s i - 48)) = ys ++ [10 * a + dg s i] := by
    have : (ys ++ [a]).length - 1 = ys.length := by simp
    rw [this, List.set_append_right _ _ (Nat.le_refl _)]
    simp [dg]
  rw [e2]
  rfl
set_option maxHeartbeats 1000000 in
theorem numbers_date {k : Nat} (hk : 60 ≤ k) (s : ByteArray) :
    civil_numbers.f k s dateForm = if s.size = 10 ∧ DateOk s then some ([1000 * dg s 0 + 100 * dg s 1 + 10 * dg s 2 + dg s 3, 10 * dg s 5 + dg s 6, 10 * dg s 8 + dg s 9], true) else some ([], false) := by
  obtain ⟨k, rfl⟩ : ∃ q, k = q + 41 := ⟨k - 41, by omega⟩
  unfold civil_numbers.f
  have hz : dateForm.size = 10 := rfl
  by_cases h : s.size = 10
  · rw [if_pos (by rw [h, hz])]
    have hs : ((10 : Int)) = (s.size : Int) := by rw [h]; rfl
    have hf : ((10 : Int)) = (dateForm.size : Int) := rfl
    rw [← hs]
    unfold DateOk
    have i4 : (45 : Int) ≠ 48 := by decide
    have e00 : ([0] : List Int) = [] ++ [0] := rfl
    rw [show k + 41 = k + 37 + 4 by omega, e00, dig_rounds [] rfl (by omega) (by omega) hs hf (by omega) rfl (by simp) (by omega)]
    by_cases c0 : Dig s 0
    · rw [if_pos c0, show k + 37 = k + 33 + 4 by omega]
      have b0 : 0 ≤ dg s 0 ∧ dg s 0 ≤ 9 := by unfold dg; unfold Dig at c0; omega
      rw [dig_rounds [] rfl (by omega) (by omega) hs hf (by omega) rfl (by simp) (by omega)]
      by_cases c1 : Dig s (0 + 1)
      · rw [if_pos c1, show k + 33 = k + 29 + 4 by omega]
        have b1 : 0 ≤ dg s (0 + 1) ∧ dg s (0 + 1) ≤ 9 := by unfold dg; unfold Dig at c1; omega
        rw [dig_rounds [] rfl (by omega) (by omega) hs hf (by omega) rfl (by simp) (by omega)]
        by_cases c2 : Dig s (0 + 1 + 1)
        · rw [if_pos c2, show k + 29 = k + 25 + 4 by omega]
          have b2 : 0 ≤ dg s (0 + 1 + 1) ∧ dg s (0 + 1 + 1) ≤ 9 := by unfold dg; unfold Dig at c2; omega
          rw [dig_rounds [] rfl (by omega) (by omega) hs hf (by omega) rfl (by simp) (by omega)]
          by_cases c3 : Dig s (0 + 1 + 1 + 1)
          · rw [if_pos c3, show k + 25 = k + 21 + 4 by omega, num_other (by omega) (by omega) hs hf (by omega) (by decide) (by simp)]
            have f4 : bt dateForm (0 + 1 + 1 + 1 + 1) = 45 := rfl
            rw [f4]
            by_cases c4 : bt s (0 + 1 + 1 + 1 + 1) = 45
            · rw [if_pos c4, show k + 21 = k + 17 + 4 by omega, dig_rounds _ rfl (by omega) (by omega) hs hf (by omega) rfl (by simp) (by omega)]
              by_cases c5 : Dig s (0 + 1 + 1 + 1 + 1 + 1)
              · rw [if_pos c5, show k + 17 = k + 13 + 4 by omega]
                have b5 : 0 ≤ dg s (0 + 1 + 1 + 1 + 1 + 1) ∧ dg s (0 + 1 + 1 + 1 + 1 + 1) ≤ 9 := by unfold dg; unfold Dig at c5; omega
                rw [dig_rounds _ rfl (by omega) (by omega) hs hf (by omega) rfl (by simp) (by omega)]
                by_cases c6 : Dig s (0 + 1 + 1 + 1 + 1 + 1 + 1)
                · rw [if_pos c6, show k + 13 = k + 9 + 4 by omega, num_other (by omega) (by omega) hs hf (by omega) (by decide) (by simp)]
                  have f7 : bt dateForm (0 + 1 + 1 + 1 + 1 + 1 + 1 + 1) = 45 := rfl
                  rw [f7]
                  by_cases c7 : bt s (0 + 1 + 1 + 1 + 1 + 1 + 1 + 1) = 45
                  · rw [if_pos c7, show k + 9 = k + 5 + 4 by omega, dig_rounds _ rfl (by omega) (by omega) hs hf (by omega) rfl (by simp) (by omega)]
                    by_cases c8 : Dig s (0 + 1 + 1 + 1 + 1 + 1 + 1 + 1 + 1)
                    · rw [if_pos c8, show k + 5 = k + 1 + 4 by omega]
                      have b8 : 0 ≤ dg s (0 + 1 + 1 + 1 + 1 + 1 + 1 + 1 + 1) ∧ dg s (0 + 1 + 1 + 1 + 1 + 1 + 1 + 1 + 1) ≤ 9 := by unfold dg; unfold Dig at c8; omega
                      rw [dig_rounds _ rfl (by omega) (by omega) hs hf (by omega) rfl (by simp) (by omega)]
                      by_cases c9 : Dig s (0 + 1 + 1 + 1 + 1 + 1 + 1 + 1 + 1 + 1)
                      · rw [if_pos c9, if_pos ⟨h, c0, c1, c2, c3, c4, c5, c6, c7, c8, c9⟩]
                        have e := num_end (k := k) (s := s) (form := dateForm) (xs := [] ++ [10 * (10 * (10 * (10 * 0 + dg s 0) + dg s (0 + 1)) + dg s (0 + 1 + 1)) + dg s (0 + 1 + 1 + 1)] ++ [10 * (10 * 0 + dg s (0 + 1 + 1 + 1 + 1 + 1)) + dg s (0 + 1 + 1 + 1 + 1 + 1 + 1)] ++ [10 * (10 * 0 + dg s (0 + 1 + 1 + 1 + 1 + 1 + 1 + 1 + 1)) + dg s (0 + 1 + 1 + 1 + 1 + 1 + 1 + 1 + 1 + 1)]) (n := 10)
                        refine e.trans ?_
                        simp
                        omega
                      · rw [if_neg c9, if_neg (fun q => c9 q.2.2.2.2.2.2.2.2.2.2)]
                    · rw [if_neg c8, if_neg (fun q => c8 q.2.2.2.2.2.2.2.2.2.1)]
                  · rw [if_neg c7, if_neg (fun q => c7 q.2.2.2.2.2.2.2.2.1)]
                · rw [if_neg c6, if_neg (fun q => c6 q.2.2.2.2.2.2.2.1)]
              · rw [if_neg c5, if_neg (fun q => c5 q.2.2.2.2.2.2.1)]
            · rw [if_neg c4, if_neg (fun q => c4 q.2.2.2.2.2.1)]
          · rw [if_neg c3, if_neg (fun q => c3 q.2.2.2.2.1)]
        · rw [if_neg c2, if_neg (fun q => c2 q.2.2.2.1)]
      · rw [if_neg c1, if_neg (fun q => c1 q.2.2.1)]
    · rw [if_neg c0, if_neg (fun q => c0 q.2.1)]
  · rw [if_neg (by rw [hz]; omega), if_neg (fun q => h q.1)]
set_option maxHeartbeats 1000000 in
theorem numbers_clock {k : Nat} (hk : 60 ≤ k) (s : ByteArray) :
    civil_numbers.f k s clockForm = if s.size = 5 ∧ ClockOk s then some ([10 * dg s 0 + dg s 1, 10 * dg s 3 + dg s 4], true) else some ([], false) := by
  obtain ⟨k, rfl⟩ : ∃ q, k = q + 21 := ⟨k - 21, by omega⟩
  unfold civil_numbers.f
  have hz : clockForm.size = 5 := rfl
  by_cases h : s.size = 5
  · rw [if_pos (by rw [h, hz])]
    have hs : ((5 : Int)) = (s.size : Int) := by rw [h]; rfl
    have hf : ((5 : Int)) = (clockForm.size : Int) := rfl
    rw [← hs]
    unfold ClockOk
    have e00 : ([0] : List Int) = [] ++ [0] := rfl
    rw [show k + 21 = k + 17 + 4 by omega, e00, dig_rounds [] rfl (by omega) (by omega) hs hf (by omega) rfl (by simp) (by omega)]
    by_cases c0 : Dig s 0
    · rw [if_pos c0, show k + 17 = k + 13 + 4 by omega]
      have b0 : 0 ≤ dg s 0 ∧ dg s 0 ≤ 9 := by unfold dg; unfold Dig at c0; omega
      rw [dig_rounds [] rfl (by omega) (by omega) hs hf (by omega) rfl (by simp) (by omega)]
      by_cases c1 : Dig s (0 + 1)
      · rw [if_pos c1, show k + 13 = k + 9 + 4 by omega, num_other (by omega) (by omega) hs hf (by omega) (by decide) (by simp)]
        have f2 : bt clockForm (0 + 1 + 1) = 58 := rfl
        rw [f2]
        by_cases c2 : bt s (0 + 1 + 1) = 58
        · rw [if_pos c2, show k + 9 = k + 5 + 4 by omega, dig_rounds _ rfl (by omega) (by omega) hs hf (by omega) rfl (by simp) (by omega)]
          by_cases c3 : Dig s (0 + 1 + 1 + 1)
          · rw [if_pos c3, show k + 5 = k + 1 + 4 by omega]
            have b3 : 0 ≤ dg s (0 + 1 + 1 + 1) ∧ dg s (0 + 1 + 1 + 1) ≤ 9 := by unfold dg; unfold Dig at c3; omega
            rw [dig_rounds _ rfl (by omega) (by omega) hs hf (by omega) rfl (by simp) (by omega)]
            by_cases c4 : Dig s (0 + 1 + 1 + 1 + 1)
            · rw [if_pos c4, if_pos ⟨h, c0, c1, c2, c3, c4⟩]
              have e := num_end (k := k) (s := s) (form := clockForm) (xs := [] ++ [10 * (10 * 0 + dg s 0) + dg s (0 + 1)] ++ [10 * (10 * 0 + dg s (0 + 1 + 1 + 1)) + dg s (0 + 1 + 1 + 1 + 1)]) (n := 5)
              refine e.trans ?_
              simp
            · rw [if_neg c4, if_neg (fun q => c4 q.2.2.2.2.2)]
          · rw [if_neg c3, if_neg (fun q => c3 q.2.2.2.2.1)]
        · rw [if_neg c2, if_neg (fun q => c2 q.2.2.2.1)]
      · rw [if_neg c1, if_neg (fun q => c1 q.2.2.1)]
    · rw [if_neg c0, if_neg (fun q => c0 q.2.1)]
  · rw [if_neg (by rw [hz]; omega), if_neg (fun q => h q.1)]

/-- The bytes of a date's text. -/
theorem bt_list {s : ByteArray} {l : List UInt8} (h : s.data.toList = l) (i : Nat) : bt s i = ((l[i]?.getD 0).toNat : Int) := by
  subst h
  unfold bt
  simp only [Int.toNat_natCast]
  by_cases hi : i < s.size
  · rw [dif_pos hi]
    have hi2 : i < s.data.toList.length := hi
    rw [List.getElem?_eq_getElem hi2]
    rfl
  · rw [dif_neg hi]
    have hi2 : s.data.toList.length ≤ i := Nat.le_of_not_lt hi
    rw [List.getElem?_eq_none hi2]
    rfl
theorem dgt {n : Int} (h : 0 ≤ n) (h9 : n ≤ 9) : ((UInt8.ofNat (48 + n).toNat).toNat : Int) = 48 + n := by
  rw [UInt8.toNat_ofNat', Nat.mod_eq_of_lt (by omega)]
  omega
theorem txt_data (y m d : Int) : (txt y m d).data.toList = [UInt8.ofNat (48 + y / 100 / 10 % 10).toNat, UInt8.ofNat (48 + y / 100 % 10).toNat, UInt8.ofNat (48 + y / 10 % 10).toNat, UInt8.ofNat (48 + y % 10).toNat, 45,
    UInt8.ofNat (48 + m / 10 % 10).toNat, UInt8.ofNat (48 + m % 10).toNat, 45, UInt8.ofNat (48 + d / 10 % 10).toNat, UInt8.ofNat (48 + d % 10).toNat] := by
  unfold txt
  simp only [ByteArray.data_append, Array.toList_append]
  rfl
theorem txt_size (y m d : Int) : (txt y m d).size = 10 := by
  have := congrArg List.length (txt_data y m d)
  simpa using this
theorem parse_txt {k : Nat} (hk : 60 ≤ k) {y m d : Int} (hc : chk y m d = 0) : civil_Parse.f k (txt y m d) = some (y, m, d, 0) := by
  obtain ⟨q1, q2, q3, q4, q5, q6⟩ := chk_ok hc
  have db := dim_bd y m
  have B := bt_list (txt_data y m d)
  have b0 : bt (txt y m d) 0 = 48 + y / 100 / 10 % 10 := (B 0).trans (dgt (by omega) (by omega))
  have b1 : bt (txt y m d) 1 = 48 + y / 100 % 10 := (B 1).trans (dgt (by omega) (by omega))
  have b2 : bt (txt y m d) 2 = 48 + y / 10 % 10 := (B 2).trans (dgt (by omega) (by omega))
  have b3 : bt (txt y m d) 3 = 48 + y % 10 := (B 3).trans (dgt (by omega) (by omega))
  have b4 : bt (txt y m d) 4 = 45 := B 4
  have b5 : bt (txt y m d) 5 = 48 + m / 10 % 10 := (B 5).trans (dgt (by omega) (by omega))
  have b6 : bt (txt y m d) 6 = 48 + m % 10 := (B 6).trans (dgt (by omega) (by omega))
  have b7 : bt (txt y m d) 7 = 45 := B 7
  have b8 : bt (txt y m d) 8 = 48 + d / 10 % 10 := (B 8).trans (dgt (by omega) (by omega))
  have b9 : bt (txt y m d) 9 = 48 + d % 10 := (B 9).trans (dgt (by omega) (by omega))
  have ok : DateOk (txt y m d) := by
    unfold DateOk Dig
    omega
  unfold civil_Parse.f
  rw [numbers_date hk, if_pos ⟨txt_size y m d, ok⟩]
  simp only [Option.bind_some, if_true]
  unfold dg
  rw [b0, b1, b2, b3, b5, b6, b8, b9]
  have e0 : 1000 * (48 + y / 100 / 10 % 10 - 48) + 100 * (48 + y / 100 % 10 - 48) + 10 * (48 + y / 10 % 10 - 48) + (48 + y % 10 - 48) = y := by omega
  have e1 : 10 * (48 + m / 10 % 10 - 48) + (48 + m % 10 - 48) = m := by omega
  have e2 : 10 * (48 + d / 10 % 10 - 48) + (48 + d % 10 - 48) = d := by omega
  rw [e0, e1, e2]
  have r0 : rd [y, m, d] 0 = y := rfl
  have r1 : rd [y, m, d] 1 = m := rfl
  have r2 : rd [y, m, d] 2 = d := rfl
  rw [r0, r1, r2, check_f1 (by omega), hc]
  simp
end Go.Proofs.YtipkgjbfannniaaDoor.M
