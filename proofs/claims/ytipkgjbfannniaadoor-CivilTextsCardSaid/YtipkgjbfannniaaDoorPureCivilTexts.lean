/- CivilTexts, over numbers and bytes alone: for all strings and numbers, Parse, Clock and ParseClock return the specified results and errors. -/
import Derived.Test.YtipkgjbfannniaaDoorMB0
import Derived.Test.YtipkgjbfannniaaDoorMP
import Derived.Test.YtipkgjbfannniaaDoorQx15
set_option linter.unusedVariables false
namespace Go.Proofs.YtipkgjbfannniaaDoor.Pure
open Go.RowKit Go.Proofs.YtipkgjbfannniaaDoor.Q Go.Proofs.YtipkgjbfannniaaDoor.M Go.Proofs.YtipkgjbfannniaaDoorW.PrintWords Go.Proofs.YtipkgjbfannniaaDoorW.PrintLast

theorem formed_dig {k : Nat} {s form : ByteArray} {i : Int} (h0 : 0 ≤ i) (h1 : i < s.size) (h2 : i < form.size) (hn : i ≤ 1000) (h48 : bt form i = 48) :
    plenumref05_formed.l0 (k + 1) s form i = if Dig s i then plenumref05_formed.l0 k s form (i + 1) else some false := by
  simp only [plenumref05_formed.l0]
  rw [if_pos h1, if_pos h0, if_pos h2, if_pos h48]
  by_cases c1 : bt s i < 48
  · rw [if_pos c1, if_neg (fun q : Dig s i => by unfold Dig at q; omega)]
  · rw [if_neg c1]
    by_cases c2 : bt s i > 57
    · rw [if_pos c2, if_neg (fun q : Dig s i => by unfold Dig at q; omega)]
    · rw [if_neg c2, if_pos (show Dig s i from ⟨by omega, by omega⟩), w64 (by omega) (by omega)]
theorem formed_other {k : Nat} {s form : ByteArray} {i : Int} (h0 : 0 ≤ i) (h1 : i < s.size) (h2 : i < form.size) (hn : i ≤ 1000) (h48 : bt form i ≠ 48) :
    plenumref05_formed.l0 (k + 1) s form i = if bt s i = bt form i then plenumref05_formed.l0 k s form (i + 1) else some false := by
  simp only [plenumref05_formed.l0]
  rw [if_pos h1, if_pos h0, if_pos h2, if_neg h48, w64 (by omega) (by omega)]
theorem formed_end {k : Nat} {s form : ByteArray} {i : Int} (h1 : ¬ i < s.size) : plenumref05_formed.l0 (k + 1) s form i = some true := by
  simp only [plenumref05_formed.l0]
  rw [if_neg h1]
theorem formed_date {k : Nat} (hk : 20 ≤ k) (s : ByteArray) : plenumref05_formed.f k s dateForm = some (decide (s.size = 10 ∧ DateOk s)) := by
  obtain ⟨k, rfl⟩ : ∃ q, k = q + 11 := ⟨k - 11, by omega⟩
  unfold plenumref05_formed.f
  have hz : dateForm.size = 10 := rfl
  by_cases h : s.size = 10
  · rw [if_pos (by rw [h, hz])]
    have f4 : bt dateForm (0 + 1 + 1 + 1 + 1) = 45 := rfl
    have f7 : bt dateForm (0 + 1 + 1 + 1 + 1 + 1 + 1 + 1) = 45 := rfl
    have no : ∀ p : Prop, ¬ p → ∀ [Decidable p], (some false : Option Bool) = some (decide p) := fun p hp _ => by simp [hp]
    unfold DateOk
    rw [formed_dig (by omega) (by omega) (by omega) (by omega) rfl]
    by_cases c0 : Dig s 0
    · rw [if_pos c0, formed_dig (by omega) (by omega) (by omega) (by omega) rfl]
      by_cases c1 : Dig s (0 + 1)
      · rw [if_pos c1, formed_dig (by omega) (by omega) (by omega) (by omega) rfl]
        by_cases c2 : Dig s (0 + 1 + 1)
        · rw [if_pos c2, formed_dig (by omega) (by omega) (by omega) (by omega) rfl]
          by_cases c3 : Dig s (0 + 1 + 1 + 1)
          · rw [if_pos c3, formed_other (by omega) (by omega) (by omega) (by omega) (by decide), f4]
            by_cases c4 : bt s (0 + 1 + 1 + 1 + 1) = 45
            · rw [if_pos c4, formed_dig (by omega) (by omega) (by omega) (by omega) rfl]
              by_cases c5 : Dig s (0 + 1 + 1 + 1 + 1 + 1)
              · rw [if_pos c5, formed_dig (by omega) (by omega) (by omega) (by omega) rfl]
                by_cases c6 : Dig s (0 + 1 + 1 + 1 + 1 + 1 + 1)
                · rw [if_pos c6, formed_other (by omega) (by omega) (by omega) (by omega) (by decide), f7]
                  by_cases c7 : bt s (0 + 1 + 1 + 1 + 1 + 1 + 1 + 1) = 45
                  · rw [if_pos c7, formed_dig (by omega) (by omega) (by omega) (by omega) rfl]
                    by_cases c8 : Dig s (0 + 1 + 1 + 1 + 1 + 1 + 1 + 1 + 1)
                    · rw [if_pos c8, formed_dig (by omega) (by omega) (by omega) (by omega) rfl]
                      by_cases c9 : Dig s (0 + 1 + 1 + 1 + 1 + 1 + 1 + 1 + 1 + 1)
                      · rw [if_pos c9, formed_end (by omega)]
                        rw [decide_eq_true (show s.size = 10 ∧ _ from ⟨h, c0, c1, c2, c3, c4, c5, c6, c7, c8, c9⟩)]
                      · rw [if_neg c9]; exact no _ (fun q => c9 q.2.2.2.2.2.2.2.2.2.2)
                    · rw [if_neg c8]; exact no _ (fun q => c8 q.2.2.2.2.2.2.2.2.2.1)
                  · rw [if_neg c7]; exact no _ (fun q => c7 q.2.2.2.2.2.2.2.2.1)
                · rw [if_neg c6]; exact no _ (fun q => c6 q.2.2.2.2.2.2.2.1)
              · rw [if_neg c5]; exact no _ (fun q => c5 q.2.2.2.2.2.2.1)
            · rw [if_neg c4]; exact no _ (fun q => c4 q.2.2.2.2.2.1)
          · rw [if_neg c3]; exact no _ (fun q => c3 q.2.2.2.2.1)
        · rw [if_neg c2]; exact no _ (fun q => c2 q.2.2.2.1)
      · rw [if_neg c1]; exact no _ (fun q => c1 q.2.2.1)
    · rw [if_neg c0]; exact no _ (fun q => c0 q.2.1)
  · rw [if_neg (by rw [hz]; omega)]
    simp [h]
theorem formed_clock {k : Nat} (hk : 20 ≤ k) (s : ByteArray) : plenumref05_formed.f k s clockForm = some (decide (s.size = 5 ∧ ClockOk s)) := by
  obtain ⟨k, rfl⟩ : ∃ q, k = q + 6 := ⟨k - 6, by omega⟩
  unfold plenumref05_formed.f
  have hz : clockForm.size = 5 := rfl
  by_cases h : s.size = 5
  · rw [if_pos (by rw [h, hz])]
    have f2 : bt clockForm (0 + 1 + 1) = 58 := rfl
    have no : ∀ p : Prop, ¬ p → ∀ [Decidable p], (some false : Option Bool) = some (decide p) := fun p hp _ => by simp [hp]
    unfold ClockOk
    rw [formed_dig (by omega) (by omega) (by omega) (by omega) rfl]
    by_cases c0 : Dig s 0
    · rw [if_pos c0, formed_dig (by omega) (by omega) (by omega) (by omega) rfl]
      by_cases c1 : Dig s (0 + 1)
      · rw [if_pos c1, formed_other (by omega) (by omega) (by omega) (by omega) (by decide), f2]
        by_cases c2 : bt s (0 + 1 + 1) = 58
        · rw [if_pos c2, formed_dig (by omega) (by omega) (by omega) (by omega) rfl]
          by_cases c3 : Dig s (0 + 1 + 1 + 1)
          · rw [if_pos c3, formed_dig (by omega) (by omega) (by omega) (by omega) rfl]
            by_cases c4 : Dig s (0 + 1 + 1 + 1 + 1)
            · rw [if_pos c4, formed_end (by omega)]
              rw [decide_eq_true (show s.size = 5 ∧ _ from ⟨h, c0, c1, c2, c3, c4⟩)]
            · rw [if_neg c4]; exact no _ (fun q => c4 q.2.2.2.2.2)
          · rw [if_neg c3]; exact no _ (fun q => c3 q.2.2.2.2.1)
        · rw [if_neg c2]; exact no _ (fun q => c2 q.2.2.2.1)
      · rw [if_neg c1]; exact no _ (fun q => c1 q.2.2.1)
    · rw [if_neg c0]; exact no _ (fun q => c0 q.2.1)
  · rw [if_neg (by rw [hz]; omega)]
    simp [h]
theorem number_step {k : Nat} {t : ByteArray} {acc i : Int} (h0 : 0 ≤ i) (h1 : i < t.size) (hn : i ≤ 1000) (ha : 0 ≤ acc) (ha2 : acc ≤ 100000) (hd : Dig t i) :
    plenumref05_number.l0 (k + 1) t acc i = plenumref05_number.l0 k t (10 * acc + dg t i) (i + 1) := by
  unfold Dig at hd
  simp only [plenumref05_number.l0]
  have e3 : (bt t i - 48) % 256 = bt t i - 48 := by omega
  rw [if_pos h1, if_pos h0, w64 (x := i + 1) (by omega) (by omega), w64 (x := 10 * acc) (by omega) (by omega), e3, w64 (by omega) (by omega)]
  rfl
theorem number_end {k : Nat} {t : ByteArray} {acc i : Int} (h1 : ¬ i < t.size) : plenumref05_number.l0 (k + 1) t acc i = some acc := by
  simp only [plenumref05_number.l0]
  rw [if_neg h1]
theorem dg_bd {t : ByteArray} {i : Int} (h : Dig t i) : 0 ≤ dg t i ∧ dg t i ≤ 9 := by
  unfold Dig at h
  unfold dg
  omega
theorem number4 {k : Nat} (hk : 10 ≤ k) {t : ByteArray} (hs : t.size = 4) (c0 : Dig t 0) (c1 : Dig t 1) (c2 : Dig t 2) (c3 : Dig t 3) :
    plenumref05_number.f k t = some (1000 * dg t 0 + 100 * dg t 1 + 10 * dg t 2 + dg t 3) := by
  obtain ⟨k, rfl⟩ : ∃ q, k = q + 5 := ⟨k - 5, by omega⟩
  have b0 := dg_bd c0
  have b1 := dg_bd c1
  have b2 := dg_bd c2
  unfold plenumref05_number.f
  have e1 : (0 : Int) + 1 = 1 := rfl
  have e2 : (1 : Int) + 1 = 2 := rfl
  have e3 : (2 : Int) + 1 = 3 := rfl
  have e4 : (3 : Int) + 1 = 4 := rfl
  rw [number_step (by omega) (by omega) (by omega) (by omega) (by omega) c0, e1, number_step (by omega) (by omega) (by omega) (by omega) (by omega) c1, e2, number_step (by omega) (by omega) (by omega) (by omega) (by omega) c2, e3,
    number_step (by omega) (by omega) (by omega) (by omega) (by omega) c3, e4, number_end (by omega)]
  exact congrArg some (by omega)
theorem number2 {k : Nat} (hk : 10 ≤ k) {t : ByteArray} (hs : t.size = 2) (c0 : Dig t 0) (c1 : Dig t 1) :
    plenumref05_number.f k t = some (10 * dg t 0 + dg t 1) := by
  obtain ⟨k, rfl⟩ : ∃ q, k = q + 3 := ⟨k - 3, by omega⟩
  have b0 := dg_bd c0
  unfold plenumref05_number.f
  have e1 : (0 : Int) + 1 = 1 := rfl
  have e2 : (1 : Int) + 1 = 2 := rfl
  rw [number_step (by omega) (by omega) (by omega) (by omega) (by omega) c0, e1, number_step (by omega) (by omega) (by omega) (by omega) (by omega) c1, e2, number_end (by omega)]
  exact congrArg some (by omega)
theorem bt_cut (s : ByteArray) (a b i : Nat) (h : a + i < b) (hb : b ≤ s.size) : bt (s.extract a b) i = bt s ((a + i : Nat) : Int) := by
  unfold bt
  simp only [Int.toNat_natCast]
  have h1 : i < (s.extract a b).size := by rw [ByteArray.size_extract]; omega
  rw [dif_pos h1, dif_pos (by omega), ByteArray.getElem_extract]
theorem parse_eq {k : Nat} (hk : 100 ≤ k) (s : ByteArray) : ∃ r, civil_Parse.f k s = some r ∧ plenumref05_Parse.f k s = some r := by
  unfold civil_Parse.f plenumref05_Parse.f
  rw [numbers_date (by omega), formed_date (by omega)]
  simp only [Option.bind_some]
  by_cases h : s.size = 10 ∧ DateOk s
  · rw [if_pos h, decide_eq_true h]
    obtain ⟨hs, hD⟩ := h
    obtain ⟨c0, c1, c2, c3, c4, c5, c6, c7, c8, c9⟩ := hD
    have x0 : bt (s.extract 0 4) 0 = bt s 0 := bt_cut s 0 4 0 (by omega) (by omega)
    have x1 : bt (s.extract 0 4) 1 = bt s 1 := bt_cut s 0 4 1 (by omega) (by omega)
    have x2 : bt (s.extract 0 4) 2 = bt s 2 := bt_cut s 0 4 2 (by omega) (by omega)
    have x3 : bt (s.extract 0 4) 3 = bt s 3 := bt_cut s 0 4 3 (by omega) (by omega)
    have x5 : bt (s.extract 5 7) 0 = bt s 5 := bt_cut s 5 7 0 (by omega) (by omega)
    have x6 : bt (s.extract 5 7) 1 = bt s 6 := bt_cut s 5 7 1 (by omega) (by omega)
    have x8 : bt (s.extract 8 s.size) 0 = bt s 8 := bt_cut s 8 s.size 0 (by omega) (by omega)
    have x9 : bt (s.extract 8 s.size) 1 = bt s 9 := bt_cut s 8 s.size 1 (by omega) (by omega)
    simp only [if_true]
    have d0 : dg (s.extract 0 4) 0 = dg s 0 := by unfold dg; rw [x0]
    have d1 : dg (s.extract 0 4) 1 = dg s 1 := by unfold dg; rw [x1]
    have d2 : dg (s.extract 0 4) 2 = dg s 2 := by unfold dg; rw [x2]
    have d3 : dg (s.extract 0 4) 3 = dg s 3 := by unfold dg; rw [x3]
    have d5 : dg (s.extract 5 7) 0 = dg s 5 := by unfold dg; rw [x5]
    have d6 : dg (s.extract 5 7) 1 = dg s 6 := by unfold dg; rw [x6]
    have d8 : dg (s.extract 8 s.size) 0 = dg s 8 := by unfold dg; rw [x8]
    have d9 : dg (s.extract 8 s.size) 1 = dg s 9 := by unfold dg; rw [x9]
    have n1 : plenumref05_number.f k (s.extract 0 4) = some (1000 * dg s 0 + 100 * dg s 1 + 10 * dg s 2 + dg s 3) := by
      rw [number4 (by omega) (by rw [ByteArray.size_extract]; omega) (by unfold Dig at *; rw [x0]; exact c0) (by unfold Dig at *; rw [x1]; exact c1) (by unfold Dig at *; rw [x2]; exact c2) (by unfold Dig at *; rw [x3]; exact c3), d0, d1, d2, d3]
    have n2 : plenumref05_number.f k (s.extract 5 7) = some (10 * dg s 5 + dg s 6) := by
      rw [number2 (by omega) (by rw [ByteArray.size_extract]; omega) (by unfold Dig at *; rw [x5]; exact c5) (by unfold Dig at *; rw [x6]; exact c6), d5, d6]
    have n3 : plenumref05_number.f k (s.extract 8 s.size) = some (10 * dg s 8 + dg s 9) := by
      rw [number2 (by omega) (by rw [ByteArray.size_extract]; omega) (by unfold Dig at *; rw [x8]; exact c8) (by unfold Dig at *; rw [x9]; exact c9), d8, d9]
    rw [n1, n2, n3]
    generalize 1000 * dg s 0 + 100 * dg s 1 + 10 * dg s 2 + dg s 3 = A
    generalize 10 * dg s 5 + dg s 6 = B
    generalize 10 * dg s 8 + dg s 9 = C
    have r0 : rd [A, B, C] 0 = A := rfl
    have r1 : rd [A, B, C] 1 = B := rfl
    have r2 : rd [A, B, C] 2 = C := rfl
    simp only [Option.bind_some, if_true, r0, r1, r2, List.length_cons, List.length_nil]
    rw [check_f1 (by omega), rcheck_f (by omega)]
    simp only [Option.bind_some]
    refine ⟨if chk A B C = 0 then (A, B, C, 0) else (0, 0, 0, chk A B C), ?_, ?_⟩
    · rw [if_pos (by decide), if_pos (by decide), if_pos (by decide)]
      split <;> rfl
    · rw [if_pos (by decide), if_pos (by omega), if_pos (by decide), if_pos (by omega), if_pos (by omega)]
      split <;> rfl
  · rw [if_neg h, decide_eq_false h]
    exact ⟨_, rfl, rfl⟩
theorem clock_eq {k : Nat} (hk : 100 ≤ k) (s : ByteArray) : ∃ r, civil_ParseClock.f k s = some r ∧ plenumref05_ParseClock.f k s = some r := by
  unfold civil_ParseClock.f plenumref05_ParseClock.f
  rw [numbers_clock (by omega), formed_clock (by omega)]
  simp only [Option.bind_some]
  by_cases h : s.size = 5 ∧ ClockOk s
  · rw [if_pos h, decide_eq_true h]
    obtain ⟨hs, hD⟩ := h
    obtain ⟨c0, c1, c2, c3, c4⟩ := hD
    have x0 : bt (s.extract 0 2) 0 = bt s 0 := bt_cut s 0 2 0 (by omega) (by omega)
    have x1 : bt (s.extract 0 2) 1 = bt s 1 := bt_cut s 0 2 1 (by omega) (by omega)
    have x3 : bt (s.extract 3 s.size) 0 = bt s 3 := bt_cut s 3 s.size 0 (by omega) (by omega)
    have x4 : bt (s.extract 3 s.size) 1 = bt s 4 := bt_cut s 3 s.size 1 (by omega) (by omega)
    simp only [if_true]
    have d0 : dg (s.extract 0 2) 0 = dg s 0 := by unfold dg; rw [x0]
    have d1 : dg (s.extract 0 2) 1 = dg s 1 := by unfold dg; rw [x1]
    have d3 : dg (s.extract 3 s.size) 0 = dg s 3 := by unfold dg; rw [x3]
    have d4 : dg (s.extract 3 s.size) 1 = dg s 4 := by unfold dg; rw [x4]
    have n1 : plenumref05_number.f k (s.extract 0 2) = some (10 * dg s 0 + dg s 1) := by
      rw [number2 (by omega) (by rw [ByteArray.size_extract]; omega) (by unfold Dig at *; rw [x0]; exact c0) (by unfold Dig at *; rw [x1]; exact c1), d0, d1]
    have n2 : plenumref05_number.f k (s.extract 3 s.size) = some (10 * dg s 3 + dg s 4) := by
      rw [number2 (by omega) (by rw [ByteArray.size_extract]; omega) (by unfold Dig at *; rw [x3]; exact c3) (by unfold Dig at *; rw [x4]; exact c4), d3, d4]
    rw [n1, n2]
    generalize 10 * dg s 0 + dg s 1 = A
    generalize 10 * dg s 3 + dg s 4 = B
    have r0 : rd [A, B] 0 = A := rfl
    have r1 : rd [A, B] 1 = B := rfl
    simp only [Option.bind_some, if_true, r0, r1, List.length_cons, List.length_nil]
    refine ⟨if A > 23 then (0, 6) else if B > 59 then (0, 6) else (wrap64 (wrap64 (60 * A) + B), 0), ?_, ?_⟩
    · rw [if_pos (by decide)]
      split
      · rfl
      · rw [if_pos (by decide)]
        split <;> rfl
    · rw [if_pos (by decide), if_pos (by omega), if_pos (by omega)]
      split
      · rfl
      · split <;> rfl
  · rw [if_neg h, decide_eq_false h]
    exact ⟨_, rfl, rfl⟩
def ctxt (n : Int) : ByteArray := (twoB (n / 60) ++ (⟨#[58]⟩ : ByteArray)) ++ twoB (n % 60)
theorem clock_ok {k : Nat} (hk : 1 ≤ k) {n : Int} (h1 : 0 ≤ n) (h2 : n < 1440) : civil_Clock.f k n = some (ctxt n, 0) := by
  obtain ⟨k, rfl⟩ : ∃ q, k = q + 1 := ⟨k - 1, by omega⟩
  have s1 : (⟨#[58]⟩ : ByteArray).size = 1 := rfl
  unfold civil_Clock.f ctxt
  have e : decide (n ≥ 1440) = false := by simp; omega
  rw [if_neg (by omega), e]
  simp only [civil_Clock.j0]
  rw [if_neg (by decide), tdv _ h1, tmd _ h1, w64 (x := n / 60) (by omega) (by omega), two_f (by omega) (by omega), two_f (by omega) (by omega)]
  simp only [Option.bind_some, ByteArray.size_append, twoB_size, s1]
  simp
theorem clock_no {k : Nat} (hk : 1 ≤ k) {n : Int} (h : ¬ (0 ≤ n ∧ n < 1440)) : civil_Clock.f k n = some ((⟨#[]⟩ : ByteArray), 6) := by
  obtain ⟨k, rfl⟩ : ∃ q, k = q + 1 := ⟨k - 1, by omega⟩
  unfold civil_Clock.f
  by_cases h1 : n < 0
  · rw [if_pos h1]
    simp [civil_Clock.j0]
  · rw [if_neg h1]
    have e : decide (n ≥ 1440) = true := by simp; omega
    rw [e]
    simp [civil_Clock.j0]
theorem rclock_ok {n : Int} (h1 : 0 ≤ n) (h2 : n < 1440) : plenumref05_Clock.f n = some (ctxt n) := by
  have s1 : (⟨#[58]⟩ : ByteArray).size = 1 := rfl
  have rtwo : ∀ n, plenumref05_two.f n = civil_two.f n := fun _ => rfl
  unfold plenumref05_Clock.f ctxt
  rw [rtwo, rtwo, tdv _ h1, tmd _ h1, w64 (x := n / 60) (by omega) (by omega), two_f (by omega) (by omega), two_f (by omega) (by omega)]
  simp only [Option.bind_some, ByteArray.size_append, twoB_size, s1]
  simp
theorem ctxt_data (n : Int) : (ctxt n).data.toList = [UInt8.ofNat (48 + n / 60 / 10 % 10).toNat, UInt8.ofNat (48 + n / 60 % 10).toNat, 58, UInt8.ofNat (48 + n % 60 / 10 % 10).toNat, UInt8.ofNat (48 + n % 60 % 10).toNat] := by
  unfold ctxt
  simp only [ByteArray.data_append, Array.toList_append]
  rfl
theorem ctxt_size (n : Int) : (ctxt n).size = 5 := by
  have := congrArg List.length (ctxt_data n)
  simpa using this
theorem parse_ctxt {k : Nat} (hk : 60 ≤ k) {n : Int} (h1 : 0 ≤ n) (h2 : n < 1440) : civil_ParseClock.f k (ctxt n) = some (n, 0) := by
  have B := bt_list (ctxt_data n)
  have b0 : bt (ctxt n) 0 = 48 + n / 60 / 10 % 10 := (B 0).trans (dgt (by omega) (by omega))
  have b1 : bt (ctxt n) 1 = 48 + n / 60 % 10 := (B 1).trans (dgt (by omega) (by omega))
  have b2 : bt (ctxt n) 2 = 58 := B 2
  have b3 : bt (ctxt n) 3 = 48 + n % 60 / 10 % 10 := (B 3).trans (dgt (by omega) (by omega))
  have b4 : bt (ctxt n) 4 = 48 + n % 60 % 10 := (B 4).trans (dgt (by omega) (by omega))
  have ok : ClockOk (ctxt n) := by
    unfold ClockOk Dig
    omega
  unfold civil_ParseClock.f
  rw [numbers_clock hk, if_pos ⟨ctxt_size n, ok⟩]
  simp only [Option.bind_some, if_true]
  unfold dg
  rw [b0, b1, b3, b4]
  have e0 : 10 * (48 + n / 60 / 10 % 10 - 48) + (48 + n / 60 % 10 - 48) = n / 60 := by omega
  have e1 : 10 * (48 + n % 60 / 10 % 10 - 48) + (48 + n % 60 % 10 - 48) = n % 60 := by omega
  rw [e0, e1]
  have r0 : rd [n / 60, n % 60] 0 = n / 60 := rfl
  have r1 : rd [n / 60, n % 60] 1 = n % 60 := rfl
  rw [r0, r1]
  simp only [List.length_cons, List.length_nil]
  rw [if_pos (by decide), if_neg (by omega), if_pos (by decide), if_neg (by omega), w64 (x := 60 * (n / 60)) (by omega) (by omega), w64 (by omega) (by omega)]
  have e2 : 60 * (n / 60) + n % 60 = n := by omega
  rw [e2]
theorem CivilTexts : plenumlaw05_CivilTexts.Pure := by
  intro s n _ _
  refine ⟨600, ?_⟩
  unfold plenumlaw05_CivilTexts.f
  rw [awake_f (by omega)]
  simp only [Option.bind_some, if_true]
  by_cases h100 : (s.size : Int) > 100
  · rw [if_pos h100]
  rw [if_neg h100]
  obtain ⟨r, e1, e2⟩ := parse_eq (k := 600) (by omega) s
  obtain ⟨q, e3, e4⟩ := clock_eq (k := 600) (by omega) s
  rw [e1, e2, e3, e4]
  simp only [Option.bind_some, if_true, bne_self_eq_false]
  by_cases h : 0 ≤ n ∧ n < 1440
  · obtain ⟨h1, h2⟩ := h
    rw [clock_ok (by omega) h1 h2]
    simp only [Option.bind_some]
    rw [if_neg (by simp)]
    simp only [plenumlaw05_CivilTexts.j0]
    have e : decide (n ≥ 1440) = false := by simp; omega
    rw [if_neg (by decide), if_neg (by omega), e]
    simp only [plenumlaw05_CivilTexts.j1]
    rw [if_neg (by decide), parse_ctxt (by omega) h1 h2, rclock_ok h1 h2]
    simp
  · rw [clock_no (by omega) h]
    simp only [Option.bind_some]
    rw [if_neg (by simp)]
    simp only [plenumlaw05_CivilTexts.j0]
    rw [if_neg (by decide)]
    have fin : ∀ k, plenumlaw05_CivilTexts.j1 (k + 1) n (⟨#[]⟩ : ByteArray) 6 true = some true := by
      intro k
      simp only [plenumlaw05_CivilTexts.j1]
      simp only [if_true]
      rw [ByteArray.toList_eq]
      rfl
    by_cases h1 : n < 0
    · rw [if_pos h1]
      exact fin _
    · rw [if_neg h1]
      have e : decide (n ≥ 1440) = true := by simp; omega
      rw [e]
      exact fin _
end Go.Proofs.YtipkgjbfannniaaDoor.Pure
