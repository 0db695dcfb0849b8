/- Two digits, and the text of a date, as lists of bytes. -/
import Derived.Test.YtipkgjbfannniaaDoorMA
set_option linter.unusedVariables false
namespace Go.Proofs.YtipkgjbfannniaaDoor.M
open Go.RowKit Go.Proofs.YtipkgjbfannniaaDoor.Q Go.Proofs.YtipkgjbfannniaaDoorW.PrintWords Go.Proofs.YtipkgjbfannniaaDoorW.PrintLast

theorem check_f1 {k : Nat} (hk : 1 ≤ k) (y m d : Int) : civil_Check.f k y m d = some (chk y m d) := by
  obtain ⟨k, rfl⟩ : ∃ q, k = q + 1 := ⟨k - 1, by omega⟩
  exact check_f k y m d
def twoB (n : Int) : ByteArray := strOfNums [48 + n / 10 % 10, 48 + n % 10]
theorem two_f {n : Int} (h1 : 0 ≤ n) (h2 : n ≤ 100000) : civil_two.f n = some (twoB n) := by
  unfold civil_two.f twoB
  rw [tdv _ h1, w64 (x := n / 10) (by omega) (by omega), tmd _ (by omega : 0 ≤ n / 10), tmd _ h1, w64 (by omega) (by omega), w64 (by omega) (by omega)]
  congr 3
  · omega
  · congr 1
    omega
theorem twoB_size (n : Int) : (twoB n).size = 2 := strOfNums_size _
def txt (y m d : Int) : ByteArray := ((((twoB (y / 100) ++ twoB y) ++ (⟨#[45]⟩ : ByteArray)) ++ twoB m) ++ (⟨#[45]⟩ : ByteArray)) ++ twoB d
theorem text_ok {k : Nat} (hk : 1 ≤ k) {y m d : Int} (hc : chk y m d = 0) : civil_Text.f k y m d = some (txt y m d, 0) := by
  obtain ⟨q1, q2, q3, q4, q5, q6⟩ := chk_ok hc
  have db := dim_bd y m
  have s1 : (⟨#[45]⟩ : ByteArray).size = 1 := rfl
  unfold civil_Text.f txt
  rw [check_f1 hk, hc]
  simp only [Option.bind_some, if_true]
  rw [tdv _ (by omega : 0 ≤ y), w64 (x := y / 100) (by omega) (by omega), two_f (by omega) (by omega), two_f (by omega) (by omega), two_f (by omega) (by omega), two_f (by omega) (by omega)]
  simp only [Option.bind_some, ByteArray.size_append, twoB_size, s1]
  simp
theorem text_no {k : Nat} (hk : 1 ≤ k) {y m d : Int} (hc : chk y m d ≠ 0) : civil_Text.f k y m d = some ((⟨#[]⟩ : ByteArray), chk y m d) := by
  unfold civil_Text.f
  rw [check_f1 hk]
  simp only [Option.bind_some]
  rw [if_neg hc]
end Go.Proofs.YtipkgjbfannniaaDoor.M
