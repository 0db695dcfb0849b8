/- CivilNext, over numbers and bytes alone: the date of the next day is the next date, the numbers are those of the dates, and the texts are in the order of the days. -/
import Derived.Test.YtipkgjbfannniaaDoorMT
import Derived.Test.YtipkgjbfannniaaDoorMP
import Derived.Test.YtipkgjbfannniaaDoorQx16
set_option linter.unusedVariables false
namespace Go.Proofs.YtipkgjbfannniaaDoor.Pure
open Go.RowKit Go.Proofs.YtipkgjbfannniaaDoor.Q Go.Proofs.YtipkgjbfannniaaDoor.M Go.Proofs.YtipkgjbfannniaaDoorW.PrintWords Go.Proofs.YtipkgjbfannniaaDoorW.PrintLast

def twoL (n : Int) : List UInt8 := [UInt8.ofNat (48 + n / 10 % 10).toNat, UInt8.ofNat (48 + n % 10).toNat]
theorem twoB_list (n : Int) : (twoB n).data.toList = twoL n := rfl
theorem txt_list (y m d : Int) : (txt y m d).toList = twoL (y / 100) ++ (twoL y ++ ([45] ++ (twoL m ++ ([45] ++ twoL d)))) := by
  rw [ByteArray.toList_eq]
  unfold txt
  simp only [ByteArray.data_append, Array.toList_append, twoB_list, List.append_assoc]
theorem less_prefix (p x y : List UInt8) : Op.bytesLess (p ++ x) (p ++ y) = Op.bytesLess x y := by
  induction p with
  | nil => rfl
  | cons a p ih =>
    have h : (a < a) = False := by simp
    simp [Op.bytesLess, ih]
theorem ofNat_lt {a b : Nat} (h : a < b) (hb : b < 256) : UInt8.ofNat a < UInt8.ofNat b := by
  rw [UInt8.lt_iff_toNat_lt, UInt8.toNat_ofNat', UInt8.toNat_ofNat', Nat.mod_eq_of_lt (by omega), Nat.mod_eq_of_lt hb]
  exact h
theorem less_two {a b : Int} (h1 : a / 10 % 10 < b / 10 % 10 ∨ a / 10 % 10 = b / 10 % 10 ∧ a % 10 < b % 10) (x y : List UInt8) : Op.bytesLess (twoL a ++ x) (twoL b ++ y) = true := by
  unfold twoL
  rcases h1 with h | ⟨h, h'⟩
  · have := ofNat_lt (a := (48 + a / 10 % 10).toNat) (b := (48 + b / 10 % 10).toNat) (by omega) (by omega)
    simp [Op.bytesLess, this]
  · have := ofNat_lt (a := (48 + a % 10).toNat) (b := (48 + b % 10).toNat) (by omega) (by omega)
    rw [h]
    simp [Op.bytesLess, this]
theorem next_text {day y m d y' m' d' : Int} (h : IsDate day y m d) (h' : IsDate (day + 1) y' m' d') (q1 : 2000 ≤ y) (q2 : y ≤ 2199) (p1 : 2000 ≤ y') (p2 : y' ≤ 2199) :
    (d < dim y m ∧ y' = y ∧ m' = m ∧ d' = d + 1 ∨ ¬ d < dim y m ∧ m < 12 ∧ y' = y ∧ m' = m + 1 ∧ d' = 1 ∨ ¬ d < dim y m ∧ ¬ m < 12 ∧ y' = y + 1 ∧ m' = 1 ∧ d' = 1) ∧ Op.bytesLess (txt y m d).toList (txt y' m' d').toList = true := by
  have hh := h
  obtain ⟨h1, h2, h3, h4, h5⟩ := h
  have db := dim_bd y m
  rw [txt_list, txt_list]
  by_cases c1 : d < dim y m
  · have hn : IsDate (day + 1) y m (d + 1) := ⟨h1, h2, by omega, by omega, by omega⟩
    obtain ⟨rfl, rfl, rfl⟩ := hn.uniq h'
    refine ⟨Or.inl ⟨c1, rfl, rfl, rfl⟩, ?_⟩
    rw [less_prefix, less_prefix, less_prefix, less_prefix, less_prefix]
    have := less_two (a := d) (b := d + 1) (by omega) [] []
    simpa using this
  · have s := C_succ (y := y) h1 h2
    by_cases c2 : m < 12
    · have dl := dim_lo (y := y) (m := m + 1) (by omega) (by omega)
      have hn : IsDate (day + 1) y (m + 1) 1 := ⟨by omega, by omega, by omega, by omega, by omega⟩
      obtain ⟨rfl, rfl, rfl⟩ := hn.uniq h'
      refine ⟨Or.inr (Or.inl ⟨c1, c2, rfl, rfl, rfl⟩), ?_⟩
      rw [less_prefix, less_prefix, less_prefix]
      exact less_two (a := m) (b := m + 1) (by omega) _ _
    · obtain rfl : m = 12 := by omega
      have e13 : (12 : Int) + 1 = 13 := rfl
      rw [e13, C_13] at s
      have sb := B_succ y
      have hn : IsDate (day + 1) (y + 1) 1 1 := ⟨by omega, by omega, by omega, by simp [dim], by rw [C_1]; omega⟩
      obtain ⟨rfl, rfl, rfl⟩ := hn.uniq h'
      refine ⟨Or.inr (Or.inr ⟨c1, c2, rfl, rfl, rfl⟩), ?_⟩
      by_cases c3 : (y + 1) / 100 = y / 100
      · rw [c3, less_prefix]
        exact less_two (a := y) (b := y + 1) (by omega) _ _
      · exact less_two (a := y / 100) (b := (y + 1) / 100) (by omega) _ _
theorem CivilNext : plenumlaw05_CivilNext.Pure := by
  intro day _
  refine ⟨700, ?_⟩
  unfold plenumlaw05_CivilNext.f
  rw [awake_f (by omega)]
  simp only [Option.bind_some, if_true]
  by_cases h0 : day < 0
  · rw [if_pos h0]
    simp [plenumlaw05_CivilNext.j0]
  rw [if_neg h0]
  by_cases h9 : day ≥ 73048
  · have e : decide (day ≥ 73048) = true := by simp; omega
    rw [e]
    simp [plenumlaw05_CivilNext.j0]
  have e : decide (day ≥ 73048) = false := by simp; omega
  rw [e]
  simp only [plenumlaw05_CivilNext.j0]
  rw [if_neg (by decide), w64 (by omega) (by omega)]
  obtain ⟨y, m, d, q1, q2, hD, hO⟩ := Of_ok (day := day) (by omega) (by omega)
  obtain ⟨y', m', d', p1, p2, hD', hO'⟩ := Of_ok (day := day + 1) (by omega) (by omega)
  have hc : chk y m d = 0 := chk_of q1 q2 hD.2.2.1 hD.2.2.2.1
  have hc' : chk y' m' d' = 0 := chk_of p1 p2 hD'.2.2.1 hD'.2.2.2.1
  obtain ⟨hn, hl⟩ := next_text hD hD' q1 q2 p1 p2
  have hday : B y + C y m + d - 1 = day := hD.2.2.2.2.symm
  have db := dim_bd y m
  obtain ⟨g1, g2, g3, g4, _⟩ := hD
  rw [hO _ (by omega), hO' _ (by omega)]
  simp only [Option.bind_some]
  rw [day_ok (by omega) hc, text_ok (by omega) hc, text_ok (by omega) hc', hday]
  simp only [Option.bind_some]
  rw [parse_txt (by omega) hc]
  simp only [Option.bind_some, if_true]
  rw [if_pos hl]
  have e1 : ((!(y == y) || (!(m == m) || (!(d == d)))) = true) = False := by simp
  rw [if_neg (by simp), check_f1 (by omega), hc]
  simp only [Option.bind_some, bne_self_eq_false]
  simp only [plenumlaw05_CivilNext.j1]
  rw [if_neg (by decide), daysIn_f]
  simp only [Option.bind_some]
  rcases hn with ⟨k1, rfl, rfl, rfl⟩ | ⟨k1, k2, rfl, rfl, rfl⟩ | ⟨k1, k2, rfl, rfl, rfl⟩
  · rw [if_pos k1, w64 (by omega) (by omega)]
    simp
  · rw [if_neg k1, if_pos k2, w64 (by omega) (by omega)]
    simp
  · rw [if_neg k1, if_neg k2, w64 (by omega) (by omega)]
    simp
end Go.Proofs.YtipkgjbfannniaaDoor.Pure
