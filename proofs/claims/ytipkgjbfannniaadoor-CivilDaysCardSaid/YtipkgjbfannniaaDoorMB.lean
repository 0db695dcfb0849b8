/- What the printed functions of the reference for package civil come to. -/
import Derived.Test.YtipkgjbfannniaaDoorMA
import Derived.Test.YtipkgjbfannniaaDoorQx9
set_option linter.unusedVariables false
namespace Go.Proofs.YtipkgjbfannniaaDoor.M
open Go.RowKit Go.Proofs.YtipkgjbfannniaaDoor.Q Go.Proofs.YtipkgjbfannniaaDoorW.PrintWords Go.Proofs.YtipkgjbfannniaaDoorW.PrintLast

theorem rleap_f (y : Int) : plenumref05_Leap.f y = some (decide (lp y = 1)) := leap_f y
theorem rdaysIn_f (k : Nat) (y m : Int) : plenumref05_DaysIn.f (k + 1) y m = some (dim y m) := by
  have hl := lp_01 y
  unfold plenumref05_DaysIn.f dim
  by_cases h4 : m = 4
  · subst h4; simp [plenumref05_DaysIn.j0]
  by_cases h6 : m = 6
  · subst h6; simp [plenumref05_DaysIn.j0]
  by_cases h9 : m = 9
  · subst h9; simp [plenumref05_DaysIn.j0]
  by_cases h11 : m = 11
  · subst h11; simp [plenumref05_DaysIn.j0]
  rw [if_neg h4, if_neg h6, if_neg h9]
  have e : (m == 11) = false := by simpa using h11
  rw [e]
  simp only [plenumref05_DaysIn.j0]
  by_cases h2 : m = 2
  · subst h2
    rw [rleap_f]
    rcases hl with h | h <;> simp [h]
  by_cases h0 : m < 1
  · simp [h2, h0]
  by_cases h12 : m > 12
  · simp [h2, h0, h12]
  · have : ¬ (12 < m) := by omega
    simp [h2, h0, this, h4, h6, h9, h11]
theorem rdaysIn_f' {k : Nat} (hk : 1 ≤ k) (y m : Int) : plenumref05_DaysIn.f k y m = some (dim y m) := by
  obtain ⟨k, rfl⟩ : ∃ q, k = q + 1 := ⟨k - 1, by omega⟩
  exact rdaysIn_f k y m
theorem rcheck_f {k : Nat} (hk : 2 ≤ k) (y m d : Int) : plenumref05_Check.f k y m d = some (chk y m d) := by
  obtain ⟨k, rfl⟩ : ∃ q, k = q + 2 := ⟨k - 2, by omega⟩
  unfold plenumref05_Check.f chk
  by_cases h1 : y < 2000
  · rw [if_pos h1, if_pos h1]; simp [plenumref05_Check.j0]
  rw [if_neg h1, if_neg h1]
  by_cases h2 : 2199 < y
  · rw [if_pos h2]; simp [plenumref05_Check.j0, h2]
  rw [if_neg h2]
  have e : decide (y > 2199) = false := by simp; omega
  rw [e]
  simp only [plenumref05_Check.j0, rdaysIn_f, Option.bind_some]
  by_cases h3 : d < 1
  · simp [h3]
  by_cases h4 : d > dim y m
  · simp [h3, h4]
  · simp [h3, h4]
theorem rday_l1 (y d : Int) (m : Int) (hm : m ≤ 12) : ∀ (n : Nat) (i : Int) (k : Nat) (s : Int), m - i = n → 1 ≤ i → n + 1 < k → -1000000 ≤ s → s ≤ 1000000 - 31 * n →
    plenumref05_Day.l1 k s i y m d = some (s + C y m - C y i) := by
  intro n
  induction n with
  | zero =>
    intro i k s hi h0 hk hs1 hs2
    obtain ⟨k, rfl⟩ : ∃ q, k = q + 1 := ⟨k - 1, by omega⟩
    obtain rfl : i = m := by omega
    simp only [plenumref05_Day.l1]
    rw [if_neg (by omega)]
    congr 1
    omega
  | succ n ih =>
    intro i k s hi h0 hk hs1 hs2
    obtain ⟨k, rfl⟩ : ∃ q, k = q + 1 := ⟨k - 1, by omega⟩
    have hb := dim_bd y i
    simp only [plenumref05_Day.l1]
    rw [if_pos (by omega), rdaysIn_f' (by omega)]
    simp only [Option.bind_some]
    rw [w64 (by omega) (by omega), w64 (by omega) (by omega), ih (i + 1) k (s + dim y i) (by omega) (by omega) (by omega) (by omega) (by omega)]
    have := C_succ (y := y) (m := i) (by omega) (by omega)
    congr 1
    omega
theorem rday_l0 (y d : Int) (h2 : y ≤ 2200) (m : Int) (hm1 : 1 ≤ m) (hm : m ≤ 12) : ∀ (n : Nat) (i : Int) (k : Nat) (s : Int), y - i = n → 2000 ≤ i → n + 14 < k → -1000 ≤ s → s ≤ 100000 - 366 * n →
    plenumref05_Day.l0 k s i y m d = some (s + B y - B i + C y m) := by
  intro n
  induction n with
  | zero =>
    intro i k s hi h0 hk hs1 hs2
    obtain ⟨k, rfl⟩ : ∃ q, k = q + 1 := ⟨k - 1, by omega⟩
    obtain rfl : i = y := by omega
    simp only [plenumref05_Day.l0]
    rw [if_neg (by omega), rday_l1 i d m hm (m - 1).toNat 1 k s (by omega) (by omega) (by omega) (by omega) (by omega), C_1]
    congr 1
    omega
  | succ n ih =>
    intro i k s hi h0 hk hs1 hs2
    obtain ⟨k, rfl⟩ : ∃ q, k = q + 1 := ⟨k - 1, by omega⟩
    have bs := B_succ i
    simp only [plenumref05_Day.l0]
    rw [if_pos (by omega), rleap_f]
    simp only [Option.bind_some]
    rcases lp_01 i with hl | hl
    · rw [hl]
      rw [if_neg (by decide)]
      rw [w64 (x := s + 365) (by omega) (by omega), w64 (by omega) (by omega), ih (i + 1) k (s + 365) (by omega) (by omega) (by omega) (by omega) (by omega)]
      congr 1
      omega
    · rw [hl]
      rw [if_pos (by decide)]
      rw [w64 (x := s + 365) (by omega) (by omega), w64 (x := s + 365 + 1) (by omega) (by omega), w64 (by omega) (by omega), ih (i + 1) k (s + 365 + 1) (by omega) (by omega) (by omega) (by omega) (by omega)]
      exact congrArg some (by omega)
theorem rday_f {k : Nat} (hk : 220 ≤ k) {y m d : Int} (h1 : 2000 ≤ y) (h2 : y ≤ 2200) (hm1 : 1 ≤ m) (hm : m ≤ 12) (hd1 : 0 ≤ d) (hd : d ≤ 1000) : plenumref05_Day.f k y m d = some (B y + C y m + d - 1) := by
  unfold plenumref05_Day.f
  rw [w64 (by omega) (by omega), rday_l0 y d h2 m hm1 hm (y - 2000).toNat 2000 k (d - 1) (by omega) (by omega) (by omega) (by omega) (by omega), B_2000]
  congr 1
  omega
theorem rof_l1 (day y m d : Int) (hD : IsDate day y m d) (h1 : 2000 ≤ y) (h2 : y ≤ 2199) : ∀ (n : Nat) (i : Int) (k : Nat), m - i = n → 1 ≤ i → n + 220 < k →
    plenumref05_Of.l1 k day y i 1 = some (y, m, d) := by
  obtain ⟨q1, q2, q3, q4, q5⟩ := hD
  have bb := B_bd (y := y) (by omega) (by omega)
  have cb := C_bd (y := y) (m := m) (by omega)
  have db := dim_bd y m
  have lb := lp_01 y
  intro n
  induction n with
  | zero =>
    intro i k hi h0 hk
    obtain ⟨k, rfl⟩ : ∃ q, k = q + 1 := ⟨k - 1, by omega⟩
    obtain rfl : i = m := by omega
    simp only [plenumref05_Of.l1]
    have fin : wrap64 (wrap64 (1 + day) - (B y + C y i + 1 - 1)) = d := by
      rw [w64 (x := 1 + day) (by omega) (by omega), w64 (by omega) (by omega)]
      omega
    by_cases h12 : i < 12
    · have cs := C_succ (y := y) (m := i) q1 q2
      have cb2 := C_bd (y := y) (m := i + 1) (by omega)
      rw [if_pos h12, w64 (x := i + 1) (by omega) (by omega), rday_f (by omega) h1 (by omega) (by omega) (by omega) (by omega) (by omega)]
      simp only [Option.bind_some]
      rw [if_neg (by omega), rday_f (by omega) h1 (by omega) q1 q2 (by omega) (by omega)]
      simp only [Option.bind_some]
      rw [fin]
    · rw [if_neg h12, rday_f (by omega) h1 (by omega) q1 q2 (by omega) (by omega)]
      simp only [Option.bind_some]
      rw [fin]
  | succ n ih =>
    intro i k hi h0 hk
    obtain ⟨k, rfl⟩ : ∃ q, k = q + 1 := ⟨k - 1, by omega⟩
    have cl := C_le (y := y) (a := i + 1) (b := m) (by omega) (by omega) (by omega)
    simp only [plenumref05_Of.l1]
    rw [if_pos (by omega), w64 (x := i + 1) (by omega) (by omega), rday_f (by omega) h1 (by omega) (by omega) (by omega) (by omega) (by omega)]
    simp only [Option.bind_some]
    rw [if_pos (by omega)]
    exact ih (i + 1) k (by omega) (by omega) (by omega)
theorem rof_l0 (day y m d : Int) (hD : IsDate day y m d) (h2 : y ≤ 2199) : ∀ (n : Nat) (i : Int) (k : Nat), y - i = n → 2000 ≤ i → n + 240 < k →
    plenumref05_Of.l0 k day i 1 1 = some (y, m, d) := by
  have hy := hD.year
  have q1 := hD.1
  have q2 := hD.2.1
  intro n
  induction n with
  | zero =>
    intro i k hi h0 hk
    obtain ⟨k, rfl⟩ : ∃ q, k = q + 1 := ⟨k - 1, by omega⟩
    obtain rfl : i = y := by omega
    simp only [plenumref05_Of.l0]
    rw [w64 (by omega) (by omega), rday_f (by omega) (by omega) (by omega) (by omega) (by omega) (by omega) (by omega), C_1]
    simp only [Option.bind_some]
    rw [if_neg (by omega)]
    exact rof_l1 day i m d hD (by omega) h2 (m - 1).toNat 1 k (by omega) (by omega) (by omega)
  | succ n ih =>
    intro i k hi h0 hk
    obtain ⟨k, rfl⟩ : ∃ q, k = q + 1 := ⟨k - 1, by omega⟩
    have bl := B_le (a := i + 1) (b := y) (by omega)
    simp only [plenumref05_Of.l0]
    rw [w64 (by omega) (by omega), rday_f (by omega) (by omega) (by omega) (by omega) (by omega) (by omega) (by omega), C_1]
    simp only [Option.bind_some]
    rw [if_pos (by omega)]
    exact ih (i + 1) k (by omega) (by omega) (by omega)
theorem rof_f {k : Nat} (hk : 500 ≤ k) {day y m d : Int} (hD : IsDate day y m d) (h1 : 2000 ≤ y) (h2 : y ≤ 2199) : plenumref05_Of.f k day = some (y, m, d) := by
  unfold plenumref05_Of.f
  exact rof_l0 day y m d hD h2 (y - 2000).toNat 2000 k (by omega) (by omega) (by omega)
theorem rweekday_f {day : Int} (h1 : 0 ≤ day) (h2 : day ≤ 80000) : plenumref05_Weekday.f day = some (wd day) := weekday_f h1 h2
theorem thu_mod (day : Int) : (thu day + 2) % 7 = 0 := by unfold thu wd; omega
theorem rweek_f {k : Nat} (hk : 500 ≤ k) {day y : Int} (h1 : 0 ≤ day) (h2 : day ≤ 73048) (q1 : 1999 ≤ y) (q2 : y ≤ 2200) (hy : InYear (thu day) y) : plenumref05_Week.f k day = some (y, (thu day - B y) / 7 + 1) := by
  have tb := thu_bd h1 h2
  have wb := wd_bd day
  have b20 := B_2000
  have b22 := B_2200
  have byb := B_bd q1 q2
  have hyy := hy
  obtain ⟨a, b⟩ := hy
  unfold plenumref05_Week.f
  rw [rweekday_f h1 (by omega)]
  simp only [Option.bind_some]
  have e : wrap64 (wrap64 (day - wd day) + 4) = thu day := by
    simp (disch := omega) only [w64]
    rfl
  rw [e]
  by_cases ht : thu day < 0
  · rw [if_pos ht]
    obtain rfl : y = 1999 := by
      by_cases e : y = 1999
      · exact e
      · have := B_le (a := 2000) (b := y) (by omega)
        omega
    have b19 : B 1999 = -365 := by decide
    have tm := thu_mod day
    rw [b19]
    have e5 : thu day = -2 := by omega
    rw [e5]
    rfl
  · rw [if_neg ht]
    have hy2 : y ≠ 1999 := by
      rintro rfl
      have e : (1999 : Int) + 1 = 2000 := rfl
      rw [e] at b
      omega
    by_cases hm : thu day ≤ 73048
    · rw [if_pos hm]
      obtain ⟨y', m, d, p1, p2, hD, _⟩ := of_f (day := thu day) (by omega) hm
      obtain rfl : y' = y := InYear.uniq hD.year hyy
      rw [rof_f hk hD p1 p2]
      simp only [Option.bind_some]
      rw [rday_f (by omega) (by omega) (by omega) (by omega) (by omega) (by omega) (by omega), C_1]
      simp only [Option.bind_some]
      have e3 : B y' + 0 + 1 - 1 = B y' := by omega
      rw [e3]
      simp (disch := omega) only [w64, tdv]
    · rw [if_neg hm]
      obtain rfl : y = 2200 := by
        by_cases e : y = 2200
        · exact e
        · have := B_le (a := y + 1) (b := 2200) (by omega)
          omega
      rw [rday_f (by omega) (by omega) (by omega) (by omega) (by omega) (by omega) (by omega), C_1]
      simp only [Option.bind_some]
      have e3 : B 2200 + 0 + 1 - 1 = B 2200 := by omega
      rw [e3]
      simp (disch := omega) only [w64, tdv]
end Go.Proofs.YtipkgjbfannniaaDoor.M
