/- Plain facts on days, months and years, and what the printed functions of package civil come to on them. -/
import Derived.Test.YtipkgjbfannniaaDoorQx7
set_option linter.unusedVariables false
namespace Go.Proofs.YtipkgjbfannniaaDoor.M
open Go.RowKit Go.Proofs.YtipkgjbfannniaaDoor.Q Go.Proofs.YtipkgjbfannniaaDoorW.PrintWords Go.Proofs.YtipkgjbfannniaaDoorW.PrintLast

theorem w64 {x : Int} (h1 : -9223372036854775808 ≤ x) (h2 : x ≤ 9223372036854775807) : wrap64 x = x := by
  unfold wrap64
  omega
theorem tdv {a : Int} (b : Int) (h : 0 ≤ a) : Int.tdiv a b = a / b := Int.tdiv_eq_ediv_of_nonneg h
theorem tmd {a : Int} (b : Int) (h : 0 ≤ a) : Int.tmod a b = a % b := Int.tmod_eq_emod_of_nonneg h
theorem tmod0 (a b : Int) : (Int.tmod a b = 0) = (a % b = 0) := propext ((Int.dvd_iff_tmod_eq_zero (a := b) (b := a)).symm.trans Int.dvd_iff_emod_eq_zero)

def lp (y : Int) : Int := if y % 4 = 0 ∧ y % 100 ≠ 0 ∨ y % 400 = 0 then 1 else 0
def dim (y m : Int) : Int := if m < 1 then 0 else if 12 < m then 0 else if m = 2 then 28 + lp y else if m = 4 ∨ m = 6 ∨ m = 9 ∨ m = 11 then 30 else 31
def B (y : Int) : Int := 365 * (y - 2000) + ((y - 1) / 4 - (y - 1) / 100 + (y - 1) / 400) - 484
def C (y m : Int) : Int := if m ≤ 1 then 0 else if m = 2 then 31 else if m = 3 then 59 + lp y else if m = 4 then 90 + lp y else if m = 5 then 120 + lp y else if m = 6 then 151 + lp y else if m = 7 then 181 + lp y
  else if m = 8 then 212 + lp y else if m = 9 then 243 + lp y else if m = 10 then 273 + lp y else if m = 11 then 304 + lp y else if m = 12 then 334 + lp y else 365 + lp y

theorem lp_01 (y : Int) : lp y = 0 ∨ lp y = 1 := by unfold lp; split <;> simp
theorem dim_bd (y m : Int) : 0 ≤ dim y m ∧ dim y m ≤ 31 := by have := lp_01 y; unfold dim; (repeat' split) <;> omega
theorem dim_lo {y m : Int} (h1 : 1 ≤ m) (h2 : m ≤ 12) : 28 ≤ dim y m := by have := lp_01 y; unfold dim; (repeat' split) <;> omega
theorem B_succ (y : Int) : B (y + 1) = B y + 365 + lp y := by unfold B lp; split <;> omega
theorem B_2000 : B 2000 = 0 := by decide
theorem B_2200 : B 2200 = 73049 := by decide
theorem C_1 (y : Int) : C y 1 = 0 := by unfold C; simp
theorem C_succ {y m : Int} (h1 : 1 ≤ m) (h2 : m ≤ 12) : C y (m + 1) = C y m + dim y m := by
  have : m = 1 ∨ m = 2 ∨ m = 3 ∨ m = 4 ∨ m = 5 ∨ m = 6 ∨ m = 7 ∨ m = 8 ∨ m = 9 ∨ m = 10 ∨ m = 11 ∨ m = 12 := by omega
  rcases this with rfl | rfl | rfl | rfl | rfl | rfl | rfl | rfl | rfl | rfl | rfl | rfl <;> simp [C, dim] <;> omega
theorem C_13 (y : Int) : C y 13 = 365 + lp y := by simp [C]
theorem C_bd {y m : Int} (h2 : m ≤ 13) : 0 ≤ C y m ∧ C y m ≤ 365 + lp y := by
  have := lp_01 y
  by_cases h1 : m ≤ 1
  · unfold C
    rw [if_pos h1]
    omega
  have : m = 2 ∨ m = 3 ∨ m = 4 ∨ m = 5 ∨ m = 6 ∨ m = 7 ∨ m = 8 ∨ m = 9 ∨ m = 10 ∨ m = 11 ∨ m = 12 ∨ m = 13 := by omega
  rcases this with rfl | rfl | rfl | rfl | rfl | rfl | rfl | rfl | rfl | rfl | rfl | rfl <;> simp [C] <;> omega
theorem B_le {a b : Int} (h : a ≤ b) : B a ≤ B b := by unfold B; omega
theorem B_bd {y : Int} (h1 : 1999 ≤ y) (h2 : y ≤ 2200) : -365 ≤ B y ∧ B y ≤ 73049 := by unfold B; omega
theorem B_big {y : Int} (h1 : -10000000 ≤ y) (h2 : y ≤ 10000000) : -10000000000 ≤ B y ∧ B y ≤ 10000000000 := by unfold B; omega
theorem C_le {y a b : Int} (h0 : 1 ≤ a) (h : a ≤ b) (h2 : b ≤ 13) : C y a ≤ C y b := by
  obtain ⟨n, rfl⟩ : ∃ n : Nat, b = a + n := ⟨(b - a).toNat, by omega⟩
  induction n with
  | zero => simp
  | succ n ih =>
    have h1 := ih (by omega) (by omega)
    have h3 := C_succ (y := y) (m := a + n) (by omega) (by omega)
    have h4 := dim_bd y (a + n)
    have e : a + ((n + 1 : Nat) : Int) = a + n + 1 := by omega
    rw [e, h3]
    omega

/-- The date of a day, however found, is one. -/
def IsDate (day y m d : Int) : Prop := 1 ≤ m ∧ m ≤ 12 ∧ 1 ≤ d ∧ d ≤ dim y m ∧ day = B y + C y m + d - 1
theorem IsDate.year {day y m d : Int} (h : IsDate day y m d) : B y ≤ day ∧ day < B (y + 1) := by
  obtain ⟨h1, h2, h3, h4, h5⟩ := h
  have a := C_succ (y := y) h1 h2
  have b := C_le (y := y) (a := m + 1) (b := 13) (by omega) (by omega) (by omega)
  have c := C_13 y
  have e := B_succ y
  have f := C_bd (y := y) (m := m) (by omega)
  omega
theorem IsDate.uniq {day y m d y' m' d' : Int} (h : IsDate day y m d) (h' : IsDate day y' m' d') : y = y' ∧ m = m' ∧ d = d' := by
  have a := h.year
  have a' := h'.year
  have hy : y = y' := by
    by_cases e : y = y'
    · exact e
    · rcases Int.lt_or_gt_of_ne e with q | q
      · have := B_le (a := y + 1) (b := y') (by omega)
        omega
      · have := B_le (a := y' + 1) (b := y) (by omega)
        omega
  subst hy
  obtain ⟨h1, h2, h3, h4, h5⟩ := h
  obtain ⟨k1, k2, k3, k4, k5⟩ := h'
  have hm : m = m' := by
    by_cases e : m = m'
    · exact e
    · rcases Int.lt_or_gt_of_ne e with q | q
      · have := C_le (y := y) (a := m + 1) (b := m') (by omega) (by omega) (by omega)
        have := C_succ (y := y) h1 h2
        omega
      · have := C_le (y := y) (a := m' + 1) (b := m) (by omega) (by omega) (by omega)
        have := C_succ (y := y) k1 k2
        omega
  subst hm
  exact ⟨rfl, rfl, by omega⟩

/-! ### The functions -/
theorem leap_f (y : Int) : civil_Leap.f y = some (decide (lp y = 1)) := by
  unfold civil_Leap.f lp
  simp only [tmod0]
  by_cases h1 : y % 4 = 0 <;> by_cases h2 : y % 100 = 0 <;> by_cases h3 : y % 400 = 0 <;> simp [h1, h2, h3, tmod0]
theorem daysIn_f (y m : Int) : civil_DaysIn.f y m = some (dim y m) := by
  unfold civil_DaysIn.f dim
  rw [leap_f]
  have := lp_01 y
  by_cases h1 : m < 1
  · rw [if_pos h1, if_pos h1]
  rw [if_neg h1, if_neg h1]
  by_cases h2 : m > 12
  · rw [if_pos h2, if_pos h2]
  rw [if_neg h2, if_neg h2]
  by_cases h3 : m = 2
  · rw [if_pos h3, if_pos h3]
    rcases this with h | h <;> simp [h]
  rw [if_neg h3, if_neg h3]
  have : m = 1 ∨ m = 3 ∨ m = 4 ∨ m = 5 ∨ m = 6 ∨ m = 7 ∨ m = 8 ∨ m = 9 ∨ m = 10 ∨ m = 11 ∨ m = 12 := by omega
  rcases this with rfl | rfl | rfl | rfl | rfl | rfl | rfl | rfl | rfl | rfl | rfl <;> rfl
theorem begin_f {y : Int} (_h1 : -10000000 ≤ y) (h2 : y ≤ 10000000) (h0 : 1 ≤ y) : civil_begin.f y = some (B y) := by
  unfold civil_begin.f B
  simp (disch := omega) only [w64, tdv]
  congr 1
  omega

def chk (y m d : Int) : Int := if y < 2000 then 1 else if 2199 < y then 1 else if d < 1 then 6 else if dim y m < d then 6 else 0
theorem check_f (k : Nat) (y m d : Int) : civil_Check.f (k + 1) y m d = some (chk y m d) := by
  unfold civil_Check.f chk
  by_cases h1 : y < 2000
  · rw [if_pos h1, if_pos h1]; simp [civil_Check.j0]
  rw [if_neg h1, if_neg h1]
  by_cases h2 : 2199 < y
  · rw [if_pos h2]; simp [civil_Check.j0, h2]
  rw [if_neg h2]
  have e : decide (y > 2199) = false := by simp; omega
  rw [e]
  simp only [civil_Check.j0, daysIn_f, Option.bind_some]
  by_cases h3 : d < 1
  · simp [h3]
  by_cases h4 : d > dim y m
  · simp [h3, h4]
  · simp [h3, h4]
theorem chk_ok {y m d : Int} (h : chk y m d = 0) : 2000 ≤ y ∧ y ≤ 2199 ∧ 1 ≤ d ∧ d ≤ dim y m ∧ 1 ≤ m ∧ m ≤ 12 := by
  unfold chk at h
  (repeat' split at h) <;> try (simp at h; done)
  have hm : 1 ≤ m ∧ m ≤ 12 := by
    by_cases e : 1 ≤ m ∧ m ≤ 12
    · exact e
    · have : dim y m = 0 := by unfold dim; (repeat' split) <;> omega
      omega
  omega
theorem chk_of {y m d : Int} (h1 : 2000 ≤ y) (h2 : y ≤ 2199) (h3 : 1 ≤ d) (h4 : d ≤ dim y m) : chk y m d = 0 := by
  unfold chk
  (repeat' split) <;> omega

theorem day_l0 (y d : Int) (h1 : 2000 ≤ y) (h2 : y ≤ 2199) (m : Int) (hm : m ≤ 12) : ∀ (n : Nat) (i : Int) (k : Nat) (s : Int), m - i = n → 1 ≤ i → n < k → -1000000 ≤ s → s ≤ 1000000 - 31 * n →
    civil_Day.l0 k s i y m d = some (s + C y m - C y i, 0) := by
  intro n
  induction n with
  | zero =>
    intro i k s hi h0 hk hs1 hs2
    obtain ⟨k, rfl⟩ : ∃ q, k = q + 1 := ⟨k - 1, by omega⟩
    obtain rfl : i = m := by omega
    simp only [civil_Day.l0]
    rw [if_neg (by omega)]
    congr 2
    omega
  | succ n ih =>
    intro i k s hi h0 hk hs1 hs2
    obtain ⟨k, rfl⟩ : ∃ q, k = q + 1 := ⟨k - 1, by omega⟩
    have hb := dim_bd y i
    simp only [civil_Day.l0]
    rw [if_pos (by omega), daysIn_f]
    simp only [Option.bind_some]
    rw [w64 (by omega) (by omega), w64 (by omega) (by omega), ih (i + 1) k (s + dim y i) (by omega) (by omega) (by omega) (by omega) (by omega)]
    have := C_succ (y := y) (m := i) (by omega) (by omega)
    congr 2
    omega
theorem day_ok {k : Nat} {y m d : Int} (hk : 14 ≤ k) (h : chk y m d = 0) : civil_Day.f k y m d = some (B y + C y m + d - 1, 0) := by
  obtain ⟨k, rfl⟩ : ∃ q, k = q + 1 := ⟨k - 1, by omega⟩
  obtain ⟨h1, h2, h3, h4, h5, h6⟩ := chk_ok h
  have hb := B_bd (y := y) (by omega) (by omega)
  have hd := dim_bd y m
  unfold civil_Day.f
  rw [check_f, h]
  simp only [Option.bind_some, if_true]
  rw [begin_f (by omega) (by omega) (by omega)]
  simp only [Option.bind_some]
  rw [w64 (x := B y + d) (by omega) (by omega), w64 (by omega) (by omega), day_l0 y d h1 h2 m h6 (m - 1).toNat 1 (k + 1) _ (by omega) (by omega) (by omega) (by omega) (by omega), C_1]
  congr 2
  omega
theorem day_no {k : Nat} {y m d : Int} (hk : 1 ≤ k) (h : chk y m d ≠ 0) : civil_Day.f k y m d = some (0, chk y m d) := by
  obtain ⟨k, rfl⟩ : ∃ q, k = q + 1 := ⟨k - 1, by omega⟩
  unfold civil_Day.f
  rw [check_f]
  simp only [Option.bind_some]
  rw [if_neg h]

theorem of_l1 (y rest0 : Int) (h1 : 2000 ≤ y) (h2 : y ≤ 2199) (h3 : 0 ≤ rest0) (h4 : rest0 < 365 + lp y) : ∀ (n : Nat) (m : Int) (k : Nat), 12 - m = n → 1 ≤ m → C y m ≤ rest0 → n < k →
    ∃ m' d, IsDate (B y + rest0) y m' d ∧ civil_of.l1 k (rest0 - C y m) y m 0 = some (y, m', d) := by
  intro n
  induction n with
  | zero =>
    intro m k hm h0 hc hk
    obtain ⟨k, rfl⟩ : ∃ q, k = q + 1 := ⟨k - 1, by omega⟩
    obtain rfl : m = 12 := by omega
    have a := C_succ (y := y) (m := 12) (by omega) (by omega)
    have b := C_13 y
    have c := dim_bd y 12
    have e : (12 : Int) + 1 = 13 := rfl
    rw [e] at a
    refine ⟨12, rest0 - C y 12 + 1, ⟨by omega, by omega, by omega, by omega, by omega⟩, ?_⟩
    simp only [civil_of.l1, daysIn_f, Option.bind_some]
    rw [if_neg (by omega), w64 (by omega) (by omega)]
  | succ n ih =>
    intro m k hm h0 hc hk
    obtain ⟨k, rfl⟩ : ∃ q, k = q + 1 := ⟨k - 1, by omega⟩
    have a := C_succ (y := y) (m := m) (by omega) (by omega)
    have c := dim_bd y m
    have l := lp_01 y
    have cb := C_bd (y := y) (m := m) (by omega)
    by_cases hr : rest0 - C y m ≥ dim y m
    · obtain ⟨m', d, hd, he⟩ := ih (m + 1) k (by omega) (by omega) (by omega) (by omega)
      refine ⟨m', d, hd, ?_⟩
      simp only [civil_of.l1, daysIn_f, Option.bind_some]
      rw [if_pos hr, w64 (by omega) (by omega), w64 (by omega) (by omega), show rest0 - C y m - dim y m = rest0 - C y (m + 1) by omega]
      exact he
    · refine ⟨m, rest0 - C y m + 1, ⟨by omega, by omega, by omega, by omega, by omega⟩, ?_⟩
      simp only [civil_of.l1, daysIn_f, Option.bind_some]
      rw [if_neg hr, w64 (by omega) (by omega)]
theorem of_l0 (day : Int) (h1 : 0 ≤ day) (h2 : day ≤ 73048) : ∀ (n : Nat) (y : Int) (k : Nat), 2199 - y = n → 2000 ≤ y → B y ≤ day → n + 14 < k →
    ∃ y' m d, 2000 ≤ y' ∧ y' ≤ 2199 ∧ IsDate day y' m d ∧ civil_of.l0 k day y 1 0 = some (y', m, d) := by
  intro n
  induction n with
  | zero =>
    intro y k hy h0 hb hk
    obtain ⟨k, rfl⟩ : ∃ q, k = q + 1 := ⟨k - 1, by omega⟩
    obtain rfl : y = 2199 := by omega
    have b := B_2200
    have s := B_succ 2199
    have l := lp_01 2199
    have e : (2199 : Int) + 1 = 2200 := rfl
    rw [e] at s
    obtain ⟨m', d, hd, he⟩ := of_l1 2199 (day - B 2199) (by omega) (by omega) (by omega) (by omega) 11 1 k (by omega) (by omega) (by rw [C_1]; omega) (by omega)
    refine ⟨2199, m', d, by omega, by omega, ?_, ?_⟩
    · rw [show B 2199 + (day - B 2199) = day by omega] at hd
      exact hd
    · simp only [civil_of.l0]
      rw [w64 (x := 2199 + 1) (by omega) (by omega), begin_f (by omega) (by omega) (by omega)]
      simp only [Option.bind_some]
      rw [e, if_neg (by omega), begin_f (by omega) (by omega) (by omega)]
      simp only [Option.bind_some]
      rw [w64 (by omega) (by omega)]
      rw [C_1] at he
      simpa using he
  | succ n ih =>
    intro y k hy h0 hb hk
    obtain ⟨k, rfl⟩ : ∃ q, k = q + 1 := ⟨k - 1, by omega⟩
    have s := B_succ y
    have bb := B_bd (y := y) (by omega) (by omega)
    by_cases hr : B (y + 1) ≤ day
    · obtain ⟨y', m, d, q1, q2, hd, he⟩ := ih (y + 1) k (by omega) (by omega) (by omega) (by omega)
      refine ⟨y', m, d, q1, q2, hd, ?_⟩
      simp only [civil_of.l0]
      rw [w64 (x := y + 1) (by omega) (by omega), begin_f (by omega) (by omega) (by omega)]
      simp only [Option.bind_some]
      rw [if_pos hr]
      exact he
    · obtain ⟨m', d, hd, he⟩ := of_l1 y (day - B y) (by omega) (by omega) (by omega) (by omega) 11 1 k (by omega) (by omega) (by rw [C_1]; omega) (by omega)
      refine ⟨y, m', d, by omega, by omega, ?_, ?_⟩
      · rw [show B y + (day - B y) = day by omega] at hd
        exact hd
      · simp only [civil_of.l0]
        rw [w64 (x := y + 1) (by omega) (by omega), begin_f (by omega) (by omega) (by omega)]
        simp only [Option.bind_some]
        rw [if_neg hr, begin_f (by omega) (by omega) (by omega)]
        simp only [Option.bind_some]
        rw [w64 (by omega) (by omega)]
        rw [C_1] at he
        simpa using he
theorem guess {t : Int} (h : 0 ≤ t) : B (2000 + t / 366) ≤ t := by unfold B; omega
theorem of_f {day : Int} (h1 : 0 ≤ day) (h2 : day ≤ 73048) : ∃ y m d, 2000 ≤ y ∧ y ≤ 2199 ∧ IsDate day y m d ∧ ∀ k, 220 ≤ k → civil_of.f k day = some (y, m, d) := by
  have g := guess h1
  have key : ∀ k, 220 ≤ k → ∃ y m d, 2000 ≤ y ∧ y ≤ 2199 ∧ IsDate day y m d ∧ civil_of.f k day = some (y, m, d) := by
    intro k hk
    unfold civil_of.f
    rw [tdv _ h1, w64 (x := day / 366) (by omega) (by omega), w64 (by omega) (by omega)]
    exact of_l0 day h1 h2 (2199 - (2000 + day / 366)).toNat _ k (by omega) (by omega) g (by omega)
  obtain ⟨y, m, d, q1, q2, hd, he⟩ := key 220 (by omega)
  refine ⟨y, m, d, q1, q2, hd, fun k hk => ?_⟩
  obtain ⟨y', m', d', _, _, hd', he'⟩ := key k hk
  obtain ⟨rfl, rfl, rfl⟩ := hd.uniq hd'
  exact he'
theorem known_f (day : Int) : civil_known.f day = some (if 0 ≤ day ∧ day ≤ 73048 then 0 else 1) := by
  unfold civil_known.f
  by_cases h1 : day < 0
  · rw [if_pos h1, if_neg (by omega)]
  · rw [if_neg h1]
    by_cases h2 : day > 73048
    · rw [if_pos h2, if_neg (by omega)]
    · rw [if_neg h2, if_pos (by omega)]
theorem Of_ok {day : Int} (h1 : 0 ≤ day) (h2 : day ≤ 73048) : ∃ y m d, 2000 ≤ y ∧ y ≤ 2199 ∧ IsDate day y m d ∧ ∀ k, 220 ≤ k → civil_Of.f k day = some (y, m, d, 0) := by
  obtain ⟨y, m, d, q1, q2, hd, he⟩ := of_f h1 h2
  refine ⟨y, m, d, q1, q2, hd, fun k hk => ?_⟩
  unfold civil_Of.f
  rw [known_f, if_pos ⟨h1, h2⟩]
  simp [he k hk]
theorem Of_no {day : Int} (k : Nat) (h : day < 0 ∨ 73048 < day) : civil_Of.f k day = some (0, 0, 0, 1) := by
  unfold civil_Of.f
  rw [known_f, if_neg (by omega)]
  simp
def wd (day : Int) : Int := (day + 5) % 7 + 1
theorem wd_bd (day : Int) : 1 ≤ wd day ∧ wd day ≤ 7 := by unfold wd; omega
theorem weekday_f {day : Int} (h1 : 0 ≤ day) (h2 : day ≤ 80000) : civil_weekday.f day = some (wd day) := by
  unfold civil_weekday.f wd
  simp (disch := omega) only [w64, tmd]
theorem Weekday_ok {day : Int} (h1 : 0 ≤ day) (h2 : day ≤ 73048) : civil_Weekday.f day = some (wd day, 0) := by
  unfold civil_Weekday.f
  rw [known_f, if_pos ⟨h1, h2⟩]
  simp [weekday_f h1 (by omega : day ≤ 80000)]
theorem Weekday_no {day : Int} (h : day < 0 ∨ 73048 < day) : civil_Weekday.f day = some (0, 1) := by
  unfold civil_Weekday.f
  rw [known_f, if_neg (by omega)]
  simp
/-- The year in which a day lies. -/
def InYear (t y : Int) : Prop := B y ≤ t ∧ t < B (y + 1)
theorem InYear.uniq {t y y' : Int} (h : InYear t y) (h' : InYear t y') : y = y' := by
  by_cases e : y = y'
  · exact e
  · obtain ⟨a, b⟩ := h
    obtain ⟨a', b'⟩ := h'
    rcases Int.lt_or_gt_of_ne e with q | q
    · have := B_le (a := y + 1) (b := y') (by omega)
      omega
    · have := B_le (a := y' + 1) (b := y) (by omega)
      omega
theorem week_l0 (t : Int) (h1 : -10 ≤ t) (h2 : t ≤ 73060) : ∀ (n : Nat) (y : Int) (k : Nat), 2200 - y = n → 1999 ≤ y → B y ≤ t → n + 1 < k →
    ∃ y', 1999 ≤ y' ∧ y' ≤ 2200 ∧ InYear t y' ∧ civil_Week.l0 k t y = some (y', (t - B y') / 7 + 1, 0) := by
  intro n
  induction n with
  | zero =>
    intro y k hy h0 hb hk
    obtain ⟨k, rfl⟩ : ∃ q, k = q + 1 := ⟨k - 1, by omega⟩
    obtain rfl : y = 2200 := by omega
    have b := B_2200
    have s := B_succ 2200
    have l := lp_01 2200
    refine ⟨2200, by omega, by omega, ⟨by omega, by omega⟩, ?_⟩
    simp only [civil_Week.l0]
    rw [w64 (x := 2200 + 1) (by omega) (by omega), begin_f (by omega) (by omega) (by omega)]
    simp only [Option.bind_some]
    rw [if_neg (by omega), begin_f (by omega) (by omega) (by omega)]
    simp only [Option.bind_some]
    simp (disch := omega) only [w64, tdv]
  | succ n ih =>
    intro y k hy h0 hb hk
    obtain ⟨k, rfl⟩ : ∃ q, k = q + 1 := ⟨k - 1, by omega⟩
    have bb := B_bd (y := y) (by omega) (by omega)
    by_cases hr : B (y + 1) ≤ t
    · obtain ⟨y', q1, q2, hd, he⟩ := ih (y + 1) k (by omega) (by omega) (by omega) (by omega)
      refine ⟨y', q1, q2, hd, ?_⟩
      simp only [civil_Week.l0]
      rw [w64 (x := y + 1) (by omega) (by omega), begin_f (by omega) (by omega) (by omega)]
      simp only [Option.bind_some]
      rw [if_pos hr]
      exact he
    · refine ⟨y, by omega, by omega, ⟨by omega, by omega⟩, ?_⟩
      simp only [civil_Week.l0]
      rw [w64 (x := y + 1) (by omega) (by omega), begin_f (by omega) (by omega) (by omega)]
      simp only [Option.bind_some]
      rw [if_neg hr, begin_f (by omega) (by omega) (by omega)]
      simp only [Option.bind_some]
      simp (disch := omega) only [w64, tdv]
/-- The Thursday of a day's week. -/
def thu (day : Int) : Int := day - wd day + 4
theorem thu_bd {day : Int} (h1 : 0 ≤ day) (h2 : day ≤ 73048) : -3 ≤ thu day ∧ thu day ≤ 73051 := by have := wd_bd day; unfold thu; unfold wd at *; omega
theorem Week_ok {day : Int} (h1 : 0 ≤ day) (h2 : day ≤ 73048) : ∃ y, 1999 ≤ y ∧ y ≤ 2200 ∧ InYear (thu day) y ∧ ∀ k, 220 ≤ k → civil_Week.f k day = some (y, (thu day - B y) / 7 + 1, 0) := by
  have tb := thu_bd h1 h2
  have wb := wd_bd day
  have key : ∀ k, 220 ≤ k → ∃ y, 1999 ≤ y ∧ y ≤ 2200 ∧ InYear (thu day) y ∧ civil_Week.f k day = some (y, (thu day - B y) / 7 + 1, 0) := by
    intro k hk
    obtain ⟨k, rfl⟩ : ∃ q, k = q + 1 := ⟨k - 1, by omega⟩
    unfold civil_Week.f
    rw [known_f, if_pos ⟨h1, h2⟩]
    simp only [Option.bind_some, if_true]
    rw [weekday_f h1 (by omega)]
    simp only [Option.bind_some]
    have e : wrap64 (wrap64 (day - wd day) + 4) = thu day := by
      simp (disch := omega) only [w64]
      rfl
    rw [e]
    by_cases ht : thu day < 0
    · rw [if_pos ht]
      simp only [civil_Week.j0]
      exact week_l0 _ (by omega) (by omega) 201 1999 k (by omega) (by omega) (by have : B 1999 = -365 := by decide
                                                                                 omega) (by omega)
    · rw [if_neg ht]
      simp only [civil_Week.j0]
      have g := guess (t := thu day) (by omega)
      rw [tdv _ (by omega : 0 ≤ thu day), w64 (x := thu day / 366) (by omega) (by omega), w64 (by omega) (by omega)]
      exact week_l0 _ (by omega) (by omega) (2200 - (2000 + thu day / 366)).toNat _ k (by omega) (by omega) g (by omega)
  obtain ⟨y, q1, q2, hd, he⟩ := key 220 (by omega)
  refine ⟨y, q1, q2, hd, fun k hk => ?_⟩
  obtain ⟨y', _, _, hd', he'⟩ := key k hk
  obtain rfl := hd.uniq hd'
  exact he'
theorem Week_no {day : Int} (k : Nat) (h : day < 0 ∨ 73048 < day) : civil_Week.f k day = some (0, 0, 1) := by
  unfold civil_Week.f
  rw [known_f, if_neg (by omega)]
  simp
theorem awake_400 : plenumlaw05_awake.f 400 = some true := by decide +kernel
theorem awake_f {k : Nat} (hk : 400 ≤ k) : plenumlaw05_awake.f k = some true := at_rounds (g := fun k => plenumlaw05_awake.f k) (fun k => plenumlaw05_awake.mono k) hk awake_400
end Go.Proofs.YtipkgjbfannniaaDoor.M
