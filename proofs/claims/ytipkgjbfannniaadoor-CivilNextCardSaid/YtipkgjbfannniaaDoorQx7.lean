-- Written by pp.py (a program of this session, over the kit's print.py) out of the translation. Not trusted: Lean checks it.
import Derived.Test.YtipkgjbfannniaaDoorQx0
import Derived.Test.YtipkgjbfannniaaDoorQx1
import Derived.Test.YtipkgjbfannniaaDoorQx2
import Derived.Test.YtipkgjbfannniaaDoorQx3
import Derived.Test.YtipkgjbfannniaaDoorQx4
import Derived.Test.YtipkgjbfannniaaDoorQx6
namespace Go.Proofs.YtipkgjbfannniaaDoor.Q
open Go.RowKit Go.Proofs.YtipkgjbfannniaaDoorW.PrintWords Go.Proofs.YtipkgjbfannniaaDoorW.PrintLast Go.Proofs.YtipkgjbfannniaaDoorW.PrintMore
attribute [local go_sem] max2_int min2_int max_two min_two max_three min_three max_four min_four   -- for this text's walks alone
attribute [local go_sem] pp_mod256 pp_mod256_w
set_option linter.unusedVariables false
set_option linter.unusedSimpArgs false

attribute [local go_sem high] eqA23
/-! ### plenumlaw05_awake: function 11 -/
def plenumlaw05_awake.f (k : Nat)  : Option (Bool) := (civil_Day.f k 2026 11 16).bind fun bt168 => ((civil_Of.f k 73048).bind fun bt170 => ((civil_Weekday.f bt168.1).bind fun bt175 => ((civil_Week.f k 0).bind fun bt177 => ((civil_Months.f k 2024 1 31 1).bind fun bt180 => ((civil_At.f 1 450).bind fun bt185 => ((civil_Split.f 113401).bind fun bt187 => ((civil_Text.f k 2026 11 16).bind fun bt191 => ((civil_Parse.f k (⟨#[50, 48, 50, 54, 45, 49, 49, 45, 49, 54]⟩ : ByteArray)).bind fun bt193 => ((civil_Clock.f k 450).bind fun bt198 => ((civil_ParseClock.f k (⟨#[48, 55, 58, 51, 48]⟩ : ByteArray)).bind fun bt200 => ((civil_Leap.f 2096).bind fun t202 => (if t202 = true then ((civil_Leap.f 2100).bind fun t203 => (if t203 = true then (none) else ((civil_DaysIn.f 2100 2).bind fun t204 => (if t204 = 28 then ((civil_Check.f k 2026 11 16).bind fun t205 => (if t205 = 0 then (if bt168.2 = 0 then (if bt168.1 = 9816 then (if bt170.2.2.2 = 0 then (if (bt170.1 == 2199 && (bt170.2.1 == 12 && (bt170.2.2.1 == 31))) = true then (if bt175.2 = 0 then (if bt175.1 = 1 then (if bt177.2.2 = 0 then (if bt177.1 = 1999 then (if bt177.2.1 = 52 then (if bt180.2.2.2 = 0 then (if bt180.2.2.1 = 29 then (if bt185.2 = 0 then (if bt185.1 = 113400 then (if bt187.2.2.2 = 0 then (if bt187.1 = 1 then (if bt187.2.1 = 450 then (if bt187.2.2.1 = 1 then (if bt191.2 = 0 then (if bt191.1.toList = ([50, 48, 50, 54, 45, 49, 49, 45, 49, 54] : List UInt8) then (if bt193.2.2.2 = 0 then (if (bt193.1 == 2026 && (bt193.2.1 == 11 && (bt193.2.2.1 == 16))) = true then (if bt198.2 = 0 then (if bt198.1.toList = ([48, 55, 58, 51, 48] : List UInt8) then (if bt200.2 = 0 then (some (bt200.1 == 450)) else (none)) else (none)) else (none)) else (none)) else (none)) else (none)) else (none)) else (none)) else (none)) else (none)) else (none)) else (none)) else (none)) else (none)) else (none)) else (none)) else (none)) else (none)) else (none)) else (none)) else (none)) else (none)) else (none)) else (none)) else (none))) else (none))))) else (none)))))))))))))
theorem plenumlaw05_awake.mono : ∀ k, LeO (plenumlaw05_awake.f k ) (plenumlaw05_awake.f (k + 1) ) := by
  intro  k
  unfold plenumlaw05_awake.f
  repeat' first
      | (with_reducible exact civil_Check.mono _ _ _ _)
      | (with_reducible exact civil_Clock.mono _ _)
      | (with_reducible exact civil_Day.mono _ _ _ _)
      | (with_reducible exact civil_Months.mono _ _ _ _ _)
      | (with_reducible exact civil_Of.mono _ _)
      | (with_reducible exact civil_Parse.mono _ _)
      | (with_reducible exact civil_ParseClock.mono _ _)
      | (with_reducible exact civil_Text.mono _ _ _ _)
      | (with_reducible exact civil_Week.mono _ _)
      | (with_reducible exact LeO.refl _)
      | (with_reducible exact LeO.none _)
      | (with_reducible refine LeO.ite ?_ ?_)
      | (with_reducible refine LeO.bind ?_ (fun _ => ?_))
      | exact civil_Check.mono _ _ _ _
      | exact civil_Clock.mono _ _
      | exact civil_Day.mono _ _ _ _
      | exact civil_Months.mono _ _ _ _ _
      | exact civil_Of.mono _ _
      | exact civil_Parse.mono _ _
      | exact civil_ParseClock.mono _ _
      | exact civil_Text.mono _ _ _ _
      | exact civil_Week.mono _ _
      | exact LeO.none _
      | refine LeO.ite ?_ ?_
      | refine LeO.bind ?_ (fun _ => ?_)
set_option maxHeartbeats 8000000 in
set_option maxRecDepth 100000 in
theorem plenumlaw05_awake.calls (k : Nat)  (r : Bool) (w : World) (hLen : LenAt w) (h : plenumlaw05_awake.f k  = some r) :
    Calls Tryd.prog 11 #[] w fun e w' => e = .returned (.bool r) ∧ Below w.heap.size w w' := by
  have HLEN := Aside0.mk hLen
  clear hLen
  have hu23 := Tryd.underlying23
  have HB := Aside0.mk (Below.refl w.heap.size w)
  have H : ((civil_Day.f k 2026 11 16).bind fun bt168 => ((civil_Of.f k 73048).bind fun bt170 => ((civil_Weekday.f bt168.1).bind fun bt175 => ((civil_Week.f k 0).bind fun bt177 => ((civil_Months.f k 2024 1 31 1).bind fun bt180 => ((civil_At.f 1 450).bind fun bt185 => ((civil_Split.f 113401).bind fun bt187 => ((civil_Text.f k 2026 11 16).bind fun bt191 => ((civil_Parse.f k (⟨#[50, 48, 50, 54, 45, 49, 49, 45, 49, 54]⟩ : ByteArray)).bind fun bt193 => ((civil_Clock.f k 450).bind fun bt198 => ((civil_ParseClock.f k (⟨#[48, 55, 58, 51, 48]⟩ : ByteArray)).bind fun bt200 => ((civil_Leap.f 2096).bind fun t202 => (if t202 = true then ((civil_Leap.f 2100).bind fun t203 => (if t203 = true then (none) else ((civil_DaysIn.f 2100 2).bind fun t204 => (if t204 = 28 then ((civil_Check.f k 2026 11 16).bind fun t205 => (if t205 = 0 then (if bt168.2 = 0 then (if bt168.1 = 9816 then (if bt170.2.2.2 = 0 then (if (bt170.1 == 2199 && (bt170.2.1 == 12 && (bt170.2.2.1 == 31))) = true then (if bt175.2 = 0 then (if bt175.1 = 1 then (if bt177.2.2 = 0 then (if bt177.1 = 1999 then (if bt177.2.1 = 52 then (if bt180.2.2.2 = 0 then (if bt180.2.2.1 = 29 then (if bt185.2 = 0 then (if bt185.1 = 113400 then (if bt187.2.2.2 = 0 then (if bt187.1 = 1 then (if bt187.2.1 = 450 then (if bt187.2.2.1 = 1 then (if bt191.2 = 0 then (if bt191.1.toList = ([50, 48, 50, 54, 45, 49, 49, 45, 49, 54] : List UInt8) then (if bt193.2.2.2 = 0 then (if (bt193.1 == 2026 && (bt193.2.1 == 11 && (bt193.2.2.1 == 16))) = true then (if bt198.2 = 0 then (if bt198.1.toList = ([48, 55, 58, 51, 48] : List UInt8) then (if bt200.2 = 0 then (some (bt200.1 == 450)) else (none)) else (none)) else (none)) else (none)) else (none)) else (none)) else (none)) else (none)) else (none)) else (none)) else (none)) else (none)) else (none)) else (none)) else (none)) else (none)) else (none)) else (none)) else (none)) else (none)) else (none)) else (none)) else (none)) else (none)) else (none))) else (none))))) else (none)))))))))))))) = some r := h
  clear h
  replace H := Option.bind_eq_some_iff.mp H
  obtain ⟨⟨t168, t169⟩, A10, H⟩ := H
  replace H : ((civil_Of.f k 73048).bind fun bt170 => ((civil_Weekday.f t168).bind fun bt175 => ((civil_Week.f k 0).bind fun bt177 => ((civil_Months.f k 2024 1 31 1).bind fun bt180 => ((civil_At.f 1 450).bind fun bt185 => ((civil_Split.f 113401).bind fun bt187 => ((civil_Text.f k 2026 11 16).bind fun bt191 => ((civil_Parse.f k (⟨#[50, 48, 50, 54, 45, 49, 49, 45, 49, 54]⟩ : ByteArray)).bind fun bt193 => ((civil_Clock.f k 450).bind fun bt198 => ((civil_ParseClock.f k (⟨#[48, 55, 58, 51, 48]⟩ : ByteArray)).bind fun bt200 => ((civil_Leap.f 2096).bind fun t202 => (if t202 = true then ((civil_Leap.f 2100).bind fun t203 => (if t203 = true then (none) else ((civil_DaysIn.f 2100 2).bind fun t204 => (if t204 = 28 then ((civil_Check.f k 2026 11 16).bind fun t205 => (if t205 = 0 then (if t169 = 0 then (if t168 = 9816 then (if bt170.2.2.2 = 0 then (if (bt170.1 == 2199 && (bt170.2.1 == 12 && (bt170.2.2.1 == 31))) = true then (if bt175.2 = 0 then (if bt175.1 = 1 then (if bt177.2.2 = 0 then (if bt177.1 = 1999 then (if bt177.2.1 = 52 then (if bt180.2.2.2 = 0 then (if bt180.2.2.1 = 29 then (if bt185.2 = 0 then (if bt185.1 = 113400 then (if bt187.2.2.2 = 0 then (if bt187.1 = 1 then (if bt187.2.1 = 450 then (if bt187.2.2.1 = 1 then (if bt191.2 = 0 then (if bt191.1.toList = ([50, 48, 50, 54, 45, 49, 49, 45, 49, 54] : List UInt8) then (if bt193.2.2.2 = 0 then (if (bt193.1 == 2026 && (bt193.2.1 == 11 && (bt193.2.2.1 == 16))) = true then (if bt198.2 = 0 then (if bt198.1.toList = ([48, 55, 58, 51, 48] : List UInt8) then (if bt200.2 = 0 then (some (bt200.1 == 450)) else (none)) else (none)) else (none)) else (none)) else (none)) else (none)) else (none)) else (none)) else (none)) else (none)) else (none)) else (none)) else (none)) else (none)) else (none)) else (none)) else (none)) else (none)) else (none)) else (none)) else (none)) else (none)) else (none)) else (none)) else (none))) else (none))))) else (none))))))))))))) = some r := H
  have A1 := Aside0.mk A10
  clear A10
  replace H := Option.bind_eq_some_iff.mp H
  obtain ⟨⟨t170, t171, t172, t173⟩, A20, H⟩ := H
  replace H : ((civil_Weekday.f t168).bind fun bt175 => ((civil_Week.f k 0).bind fun bt177 => ((civil_Months.f k 2024 1 31 1).bind fun bt180 => ((civil_At.f 1 450).bind fun bt185 => ((civil_Split.f 113401).bind fun bt187 => ((civil_Text.f k 2026 11 16).bind fun bt191 => ((civil_Parse.f k (⟨#[50, 48, 50, 54, 45, 49, 49, 45, 49, 54]⟩ : ByteArray)).bind fun bt193 => ((civil_Clock.f k 450).bind fun bt198 => ((civil_ParseClock.f k (⟨#[48, 55, 58, 51, 48]⟩ : ByteArray)).bind fun bt200 => ((civil_Leap.f 2096).bind fun t202 => (if t202 = true then ((civil_Leap.f 2100).bind fun t203 => (if t203 = true then (none) else ((civil_DaysIn.f 2100 2).bind fun t204 => (if t204 = 28 then ((civil_Check.f k 2026 11 16).bind fun t205 => (if t205 = 0 then (if t169 = 0 then (if t168 = 9816 then (if t173 = 0 then (if (t170 == 2199 && (t171 == 12 && (t172 == 31))) = true then (if bt175.2 = 0 then (if bt175.1 = 1 then (if bt177.2.2 = 0 then (if bt177.1 = 1999 then (if bt177.2.1 = 52 then (if bt180.2.2.2 = 0 then (if bt180.2.2.1 = 29 then (if bt185.2 = 0 then (if bt185.1 = 113400 then (if bt187.2.2.2 = 0 then (if bt187.1 = 1 then (if bt187.2.1 = 450 then (if bt187.2.2.1 = 1 then (if bt191.2 = 0 then (if bt191.1.toList = ([50, 48, 50, 54, 45, 49, 49, 45, 49, 54] : List UInt8) then (if bt193.2.2.2 = 0 then (if (bt193.1 == 2026 && (bt193.2.1 == 11 && (bt193.2.2.1 == 16))) = true then (if bt198.2 = 0 then (if bt198.1.toList = ([48, 55, 58, 51, 48] : List UInt8) then (if bt200.2 = 0 then (some (bt200.1 == 450)) else (none)) else (none)) else (none)) else (none)) else (none)) else (none)) else (none)) else (none)) else (none)) else (none)) else (none)) else (none)) else (none)) else (none)) else (none)) else (none)) else (none)) else (none)) else (none)) else (none)) else (none)) else (none)) else (none)) else (none)) else (none))) else (none))))) else (none)))))))))))) = some r := H
  have A2 := Aside0.mk A20
  clear A20
  replace H := Option.bind_eq_some_iff.mp H
  obtain ⟨⟨t175, t176⟩, A30, H⟩ := H
  replace H : ((civil_Week.f k 0).bind fun bt177 => ((civil_Months.f k 2024 1 31 1).bind fun bt180 => ((civil_At.f 1 450).bind fun bt185 => ((civil_Split.f 113401).bind fun bt187 => ((civil_Text.f k 2026 11 16).bind fun bt191 => ((civil_Parse.f k (⟨#[50, 48, 50, 54, 45, 49, 49, 45, 49, 54]⟩ : ByteArray)).bind fun bt193 => ((civil_Clock.f k 450).bind fun bt198 => ((civil_ParseClock.f k (⟨#[48, 55, 58, 51, 48]⟩ : ByteArray)).bind fun bt200 => ((civil_Leap.f 2096).bind fun t202 => (if t202 = true then ((civil_Leap.f 2100).bind fun t203 => (if t203 = true then (none) else ((civil_DaysIn.f 2100 2).bind fun t204 => (if t204 = 28 then ((civil_Check.f k 2026 11 16).bind fun t205 => (if t205 = 0 then (if t169 = 0 then (if t168 = 9816 then (if t173 = 0 then (if (t170 == 2199 && (t171 == 12 && (t172 == 31))) = true then (if t176 = 0 then (if t175 = 1 then (if bt177.2.2 = 0 then (if bt177.1 = 1999 then (if bt177.2.1 = 52 then (if bt180.2.2.2 = 0 then (if bt180.2.2.1 = 29 then (if bt185.2 = 0 then (if bt185.1 = 113400 then (if bt187.2.2.2 = 0 then (if bt187.1 = 1 then (if bt187.2.1 = 450 then (if bt187.2.2.1 = 1 then (if bt191.2 = 0 then (if bt191.1.toList = ([50, 48, 50, 54, 45, 49, 49, 45, 49, 54] : List UInt8) then (if bt193.2.2.2 = 0 then (if (bt193.1 == 2026 && (bt193.2.1 == 11 && (bt193.2.2.1 == 16))) = true then (if bt198.2 = 0 then (if bt198.1.toList = ([48, 55, 58, 51, 48] : List UInt8) then (if bt200.2 = 0 then (some (bt200.1 == 450)) else (none)) else (none)) else (none)) else (none)) else (none)) else (none)) else (none)) else (none)) else (none)) else (none)) else (none)) else (none)) else (none)) else (none)) else (none)) else (none)) else (none)) else (none)) else (none)) else (none)) else (none)) else (none)) else (none)) else (none)) else (none))) else (none))))) else (none))))))))))) = some r := H
  have A3 := Aside0.mk A30
  clear A30
  replace H := Option.bind_eq_some_iff.mp H
  obtain ⟨⟨t177, t178, t179⟩, A40, H⟩ := H
  replace H : ((civil_Months.f k 2024 1 31 1).bind fun bt180 => ((civil_At.f 1 450).bind fun bt185 => ((civil_Split.f 113401).bind fun bt187 => ((civil_Text.f k 2026 11 16).bind fun bt191 => ((civil_Parse.f k (⟨#[50, 48, 50, 54, 45, 49, 49, 45, 49, 54]⟩ : ByteArray)).bind fun bt193 => ((civil_Clock.f k 450).bind fun bt198 => ((civil_ParseClock.f k (⟨#[48, 55, 58, 51, 48]⟩ : ByteArray)).bind fun bt200 => ((civil_Leap.f 2096).bind fun t202 => (if t202 = true then ((civil_Leap.f 2100).bind fun t203 => (if t203 = true then (none) else ((civil_DaysIn.f 2100 2).bind fun t204 => (if t204 = 28 then ((civil_Check.f k 2026 11 16).bind fun t205 => (if t205 = 0 then (if t169 = 0 then (if t168 = 9816 then (if t173 = 0 then (if (t170 == 2199 && (t171 == 12 && (t172 == 31))) = true then (if t176 = 0 then (if t175 = 1 then (if t179 = 0 then (if t177 = 1999 then (if t178 = 52 then (if bt180.2.2.2 = 0 then (if bt180.2.2.1 = 29 then (if bt185.2 = 0 then (if bt185.1 = 113400 then (if bt187.2.2.2 = 0 then (if bt187.1 = 1 then (if bt187.2.1 = 450 then (if bt187.2.2.1 = 1 then (if bt191.2 = 0 then (if bt191.1.toList = ([50, 48, 50, 54, 45, 49, 49, 45, 49, 54] : List UInt8) then (if bt193.2.2.2 = 0 then (if (bt193.1 == 2026 && (bt193.2.1 == 11 && (bt193.2.2.1 == 16))) = true then (if bt198.2 = 0 then (if bt198.1.toList = ([48, 55, 58, 51, 48] : List UInt8) then (if bt200.2 = 0 then (some (bt200.1 == 450)) else (none)) else (none)) else (none)) else (none)) else (none)) else (none)) else (none)) else (none)) else (none)) else (none)) else (none)) else (none)) else (none)) else (none)) else (none)) else (none)) else (none)) else (none)) else (none)) else (none)) else (none)) else (none)) else (none)) else (none)) else (none))) else (none))))) else (none)))))))))) = some r := H
  have A4 := Aside0.mk A40
  clear A40
  replace H := Option.bind_eq_some_iff.mp H
  obtain ⟨⟨t180, t181, t182, t183⟩, A50, H⟩ := H
  replace H : ((civil_At.f 1 450).bind fun bt185 => ((civil_Split.f 113401).bind fun bt187 => ((civil_Text.f k 2026 11 16).bind fun bt191 => ((civil_Parse.f k (⟨#[50, 48, 50, 54, 45, 49, 49, 45, 49, 54]⟩ : ByteArray)).bind fun bt193 => ((civil_Clock.f k 450).bind fun bt198 => ((civil_ParseClock.f k (⟨#[48, 55, 58, 51, 48]⟩ : ByteArray)).bind fun bt200 => ((civil_Leap.f 2096).bind fun t202 => (if t202 = true then ((civil_Leap.f 2100).bind fun t203 => (if t203 = true then (none) else ((civil_DaysIn.f 2100 2).bind fun t204 => (if t204 = 28 then ((civil_Check.f k 2026 11 16).bind fun t205 => (if t205 = 0 then (if t169 = 0 then (if t168 = 9816 then (if t173 = 0 then (if (t170 == 2199 && (t171 == 12 && (t172 == 31))) = true then (if t176 = 0 then (if t175 = 1 then (if t179 = 0 then (if t177 = 1999 then (if t178 = 52 then (if t183 = 0 then (if t182 = 29 then (if bt185.2 = 0 then (if bt185.1 = 113400 then (if bt187.2.2.2 = 0 then (if bt187.1 = 1 then (if bt187.2.1 = 450 then (if bt187.2.2.1 = 1 then (if bt191.2 = 0 then (if bt191.1.toList = ([50, 48, 50, 54, 45, 49, 49, 45, 49, 54] : List UInt8) then (if bt193.2.2.2 = 0 then (if (bt193.1 == 2026 && (bt193.2.1 == 11 && (bt193.2.2.1 == 16))) = true then (if bt198.2 = 0 then (if bt198.1.toList = ([48, 55, 58, 51, 48] : List UInt8) then (if bt200.2 = 0 then (some (bt200.1 == 450)) else (none)) else (none)) else (none)) else (none)) else (none)) else (none)) else (none)) else (none)) else (none)) else (none)) else (none)) else (none)) else (none)) else (none)) else (none)) else (none)) else (none)) else (none)) else (none)) else (none)) else (none)) else (none)) else (none)) else (none)) else (none))) else (none))))) else (none))))))))) = some r := H
  have A5 := Aside0.mk A50
  clear A50
  replace H := Option.bind_eq_some_iff.mp H
  obtain ⟨⟨t185, t186⟩, A60, H⟩ := H
  replace H : ((civil_Split.f 113401).bind fun bt187 => ((civil_Text.f k 2026 11 16).bind fun bt191 => ((civil_Parse.f k (⟨#[50, 48, 50, 54, 45, 49, 49, 45, 49, 54]⟩ : ByteArray)).bind fun bt193 => ((civil_Clock.f k 450).bind fun bt198 => ((civil_ParseClock.f k (⟨#[48, 55, 58, 51, 48]⟩ : ByteArray)).bind fun bt200 => ((civil_Leap.f 2096).bind fun t202 => (if t202 = true then ((civil_Leap.f 2100).bind fun t203 => (if t203 = true then (none) else ((civil_DaysIn.f 2100 2).bind fun t204 => (if t204 = 28 then ((civil_Check.f k 2026 11 16).bind fun t205 => (if t205 = 0 then (if t169 = 0 then (if t168 = 9816 then (if t173 = 0 then (if (t170 == 2199 && (t171 == 12 && (t172 == 31))) = true then (if t176 = 0 then (if t175 = 1 then (if t179 = 0 then (if t177 = 1999 then (if t178 = 52 then (if t183 = 0 then (if t182 = 29 then (if t186 = 0 then (if t185 = 113400 then (if bt187.2.2.2 = 0 then (if bt187.1 = 1 then (if bt187.2.1 = 450 then (if bt187.2.2.1 = 1 then (if bt191.2 = 0 then (if bt191.1.toList = ([50, 48, 50, 54, 45, 49, 49, 45, 49, 54] : List UInt8) then (if bt193.2.2.2 = 0 then (if (bt193.1 == 2026 && (bt193.2.1 == 11 && (bt193.2.2.1 == 16))) = true then (if bt198.2 = 0 then (if bt198.1.toList = ([48, 55, 58, 51, 48] : List UInt8) then (if bt200.2 = 0 then (some (bt200.1 == 450)) else (none)) else (none)) else (none)) else (none)) else (none)) else (none)) else (none)) else (none)) else (none)) else (none)) else (none)) else (none)) else (none)) else (none)) else (none)) else (none)) else (none)) else (none)) else (none)) else (none)) else (none)) else (none)) else (none)) else (none)) else (none))) else (none))))) else (none)))))))) = some r := H
  have A6 := Aside0.mk A60
  clear A60
  replace H := Option.bind_eq_some_iff.mp H
  obtain ⟨⟨t187, t188, t189, t190⟩, A70, H⟩ := H
  replace H : ((civil_Text.f k 2026 11 16).bind fun bt191 => ((civil_Parse.f k (⟨#[50, 48, 50, 54, 45, 49, 49, 45, 49, 54]⟩ : ByteArray)).bind fun bt193 => ((civil_Clock.f k 450).bind fun bt198 => ((civil_ParseClock.f k (⟨#[48, 55, 58, 51, 48]⟩ : ByteArray)).bind fun bt200 => ((civil_Leap.f 2096).bind fun t202 => (if t202 = true then ((civil_Leap.f 2100).bind fun t203 => (if t203 = true then (none) else ((civil_DaysIn.f 2100 2).bind fun t204 => (if t204 = 28 then ((civil_Check.f k 2026 11 16).bind fun t205 => (if t205 = 0 then (if t169 = 0 then (if t168 = 9816 then (if t173 = 0 then (if (t170 == 2199 && (t171 == 12 && (t172 == 31))) = true then (if t176 = 0 then (if t175 = 1 then (if t179 = 0 then (if t177 = 1999 then (if t178 = 52 then (if t183 = 0 then (if t182 = 29 then (if t186 = 0 then (if t185 = 113400 then (if t190 = 0 then (if t187 = 1 then (if t188 = 450 then (if t189 = 1 then (if bt191.2 = 0 then (if bt191.1.toList = ([50, 48, 50, 54, 45, 49, 49, 45, 49, 54] : List UInt8) then (if bt193.2.2.2 = 0 then (if (bt193.1 == 2026 && (bt193.2.1 == 11 && (bt193.2.2.1 == 16))) = true then (if bt198.2 = 0 then (if bt198.1.toList = ([48, 55, 58, 51, 48] : List UInt8) then (if bt200.2 = 0 then (some (bt200.1 == 450)) else (none)) else (none)) else (none)) else (none)) else (none)) else (none)) else (none)) else (none)) else (none)) else (none)) else (none)) else (none)) else (none)) else (none)) else (none)) else (none)) else (none)) else (none)) else (none)) else (none)) else (none)) else (none)) else (none)) else (none)) else (none))) else (none))))) else (none))))))) = some r := H
  have A7 := Aside0.mk A70
  clear A70
  replace H := Option.bind_eq_some_iff.mp H
  obtain ⟨⟨t191, t192⟩, A80, H⟩ := H
  replace H : ((civil_Parse.f k (⟨#[50, 48, 50, 54, 45, 49, 49, 45, 49, 54]⟩ : ByteArray)).bind fun bt193 => ((civil_Clock.f k 450).bind fun bt198 => ((civil_ParseClock.f k (⟨#[48, 55, 58, 51, 48]⟩ : ByteArray)).bind fun bt200 => ((civil_Leap.f 2096).bind fun t202 => (if t202 = true then ((civil_Leap.f 2100).bind fun t203 => (if t203 = true then (none) else ((civil_DaysIn.f 2100 2).bind fun t204 => (if t204 = 28 then ((civil_Check.f k 2026 11 16).bind fun t205 => (if t205 = 0 then (if t169 = 0 then (if t168 = 9816 then (if t173 = 0 then (if (t170 == 2199 && (t171 == 12 && (t172 == 31))) = true then (if t176 = 0 then (if t175 = 1 then (if t179 = 0 then (if t177 = 1999 then (if t178 = 52 then (if t183 = 0 then (if t182 = 29 then (if t186 = 0 then (if t185 = 113400 then (if t190 = 0 then (if t187 = 1 then (if t188 = 450 then (if t189 = 1 then (if t192 = 0 then (if t191.toList = ([50, 48, 50, 54, 45, 49, 49, 45, 49, 54] : List UInt8) then (if bt193.2.2.2 = 0 then (if (bt193.1 == 2026 && (bt193.2.1 == 11 && (bt193.2.2.1 == 16))) = true then (if bt198.2 = 0 then (if bt198.1.toList = ([48, 55, 58, 51, 48] : List UInt8) then (if bt200.2 = 0 then (some (bt200.1 == 450)) else (none)) else (none)) else (none)) else (none)) else (none)) else (none)) else (none)) else (none)) else (none)) else (none)) else (none)) else (none)) else (none)) else (none)) else (none)) else (none)) else (none)) else (none)) else (none)) else (none)) else (none)) else (none)) else (none)) else (none)) else (none))) else (none))))) else (none)))))) = some r := H
  have A8 := Aside0.mk A80
  clear A80
  replace H := Option.bind_eq_some_iff.mp H
  obtain ⟨⟨t193, t194, t195, t196⟩, A90, H⟩ := H
  replace H : ((civil_Clock.f k 450).bind fun bt198 => ((civil_ParseClock.f k (⟨#[48, 55, 58, 51, 48]⟩ : ByteArray)).bind fun bt200 => ((civil_Leap.f 2096).bind fun t202 => (if t202 = true then ((civil_Leap.f 2100).bind fun t203 => (if t203 = true then (none) else ((civil_DaysIn.f 2100 2).bind fun t204 => (if t204 = 28 then ((civil_Check.f k 2026 11 16).bind fun t205 => (if t205 = 0 then (if t169 = 0 then (if t168 = 9816 then (if t173 = 0 then (if (t170 == 2199 && (t171 == 12 && (t172 == 31))) = true then (if t176 = 0 then (if t175 = 1 then (if t179 = 0 then (if t177 = 1999 then (if t178 = 52 then (if t183 = 0 then (if t182 = 29 then (if t186 = 0 then (if t185 = 113400 then (if t190 = 0 then (if t187 = 1 then (if t188 = 450 then (if t189 = 1 then (if t192 = 0 then (if t191.toList = ([50, 48, 50, 54, 45, 49, 49, 45, 49, 54] : List UInt8) then (if t196 = 0 then (if (t193 == 2026 && (t194 == 11 && (t195 == 16))) = true then (if bt198.2 = 0 then (if bt198.1.toList = ([48, 55, 58, 51, 48] : List UInt8) then (if bt200.2 = 0 then (some (bt200.1 == 450)) else (none)) else (none)) else (none)) else (none)) else (none)) else (none)) else (none)) else (none)) else (none)) else (none)) else (none)) else (none)) else (none)) else (none)) else (none)) else (none)) else (none)) else (none)) else (none)) else (none)) else (none)) else (none)) else (none)) else (none)) else (none))) else (none))))) else (none))))) = some r := H
  have A9 := Aside0.mk A90
  clear A90
  replace H := Option.bind_eq_some_iff.mp H
  obtain ⟨⟨t198, t199⟩, A100, H⟩ := H
  replace H : ((civil_ParseClock.f k (⟨#[48, 55, 58, 51, 48]⟩ : ByteArray)).bind fun bt200 => ((civil_Leap.f 2096).bind fun t202 => (if t202 = true then ((civil_Leap.f 2100).bind fun t203 => (if t203 = true then (none) else ((civil_DaysIn.f 2100 2).bind fun t204 => (if t204 = 28 then ((civil_Check.f k 2026 11 16).bind fun t205 => (if t205 = 0 then (if t169 = 0 then (if t168 = 9816 then (if t173 = 0 then (if (t170 == 2199 && (t171 == 12 && (t172 == 31))) = true then (if t176 = 0 then (if t175 = 1 then (if t179 = 0 then (if t177 = 1999 then (if t178 = 52 then (if t183 = 0 then (if t182 = 29 then (if t186 = 0 then (if t185 = 113400 then (if t190 = 0 then (if t187 = 1 then (if t188 = 450 then (if t189 = 1 then (if t192 = 0 then (if t191.toList = ([50, 48, 50, 54, 45, 49, 49, 45, 49, 54] : List UInt8) then (if t196 = 0 then (if (t193 == 2026 && (t194 == 11 && (t195 == 16))) = true then (if t199 = 0 then (if t198.toList = ([48, 55, 58, 51, 48] : List UInt8) then (if bt200.2 = 0 then (some (bt200.1 == 450)) else (none)) else (none)) else (none)) else (none)) else (none)) else (none)) else (none)) else (none)) else (none)) else (none)) else (none)) else (none)) else (none)) else (none)) else (none)) else (none)) else (none)) else (none)) else (none)) else (none)) else (none)) else (none)) else (none)) else (none)) else (none))) else (none))))) else (none)))) = some r := H
  have A10 := Aside0.mk A100
  clear A100
  replace H := Option.bind_eq_some_iff.mp H
  obtain ⟨⟨t200, t201⟩, A110, H⟩ := H
  replace H : ((civil_Leap.f 2096).bind fun t202 => (if t202 = true then ((civil_Leap.f 2100).bind fun t203 => (if t203 = true then (none) else ((civil_DaysIn.f 2100 2).bind fun t204 => (if t204 = 28 then ((civil_Check.f k 2026 11 16).bind fun t205 => (if t205 = 0 then (if t169 = 0 then (if t168 = 9816 then (if t173 = 0 then (if (t170 == 2199 && (t171 == 12 && (t172 == 31))) = true then (if t176 = 0 then (if t175 = 1 then (if t179 = 0 then (if t177 = 1999 then (if t178 = 52 then (if t183 = 0 then (if t182 = 29 then (if t186 = 0 then (if t185 = 113400 then (if t190 = 0 then (if t187 = 1 then (if t188 = 450 then (if t189 = 1 then (if t192 = 0 then (if t191.toList = ([50, 48, 50, 54, 45, 49, 49, 45, 49, 54] : List UInt8) then (if t196 = 0 then (if (t193 == 2026 && (t194 == 11 && (t195 == 16))) = true then (if t199 = 0 then (if t198.toList = ([48, 55, 58, 51, 48] : List UInt8) then (if t201 = 0 then (some (t200 == 450)) else (none)) else (none)) else (none)) else (none)) else (none)) else (none)) else (none)) else (none)) else (none)) else (none)) else (none)) else (none)) else (none)) else (none)) else (none)) else (none)) else (none)) else (none)) else (none)) else (none)) else (none)) else (none)) else (none)) else (none)) else (none))) else (none))))) else (none))) = some r := H
  have A11 := Aside0.mk A110
  clear A110
  replace H := Option.bind_eq_some_iff.mp H
  obtain ⟨t202, A120, H⟩ := H
  replace H : (if t202 = true then ((civil_Leap.f 2100).bind fun t203 => (if t203 = true then (none) else ((civil_DaysIn.f 2100 2).bind fun t204 => (if t204 = 28 then ((civil_Check.f k 2026 11 16).bind fun t205 => (if t205 = 0 then (if t169 = 0 then (if t168 = 9816 then (if t173 = 0 then (if (t170 == 2199 && (t171 == 12 && (t172 == 31))) = true then (if t176 = 0 then (if t175 = 1 then (if t179 = 0 then (if t177 = 1999 then (if t178 = 52 then (if t183 = 0 then (if t182 = 29 then (if t186 = 0 then (if t185 = 113400 then (if t190 = 0 then (if t187 = 1 then (if t188 = 450 then (if t189 = 1 then (if t192 = 0 then (if t191.toList = ([50, 48, 50, 54, 45, 49, 49, 45, 49, 54] : List UInt8) then (if t196 = 0 then (if (t193 == 2026 && (t194 == 11 && (t195 == 16))) = true then (if t199 = 0 then (if t198.toList = ([48, 55, 58, 51, 48] : List UInt8) then (if t201 = 0 then (some (t200 == 450)) else (none)) else (none)) else (none)) else (none)) else (none)) else (none)) else (none)) else (none)) else (none)) else (none)) else (none)) else (none)) else (none)) else (none)) else (none)) else (none)) else (none)) else (none)) else (none)) else (none)) else (none)) else (none)) else (none)) else (none)) else (none))) else (none))))) else (none)) = some r := H
  have A12 := Aside0.mk A120
  clear A120
  by_cases c13 : t202 = true
  · subst c13
    have H1 : ((civil_Leap.f 2100).bind fun t203 => (if t203 = true then (none) else ((civil_DaysIn.f 2100 2).bind fun t204 => (if t204 = 28 then ((civil_Check.f k 2026 11 16).bind fun t205 => (if t205 = 0 then (if t169 = 0 then (if t168 = 9816 then (if t173 = 0 then (if (t170 == 2199 && (t171 == 12 && (t172 == 31))) = true then (if t176 = 0 then (if t175 = 1 then (if t179 = 0 then (if t177 = 1999 then (if t178 = 52 then (if t183 = 0 then (if t182 = 29 then (if t186 = 0 then (if t185 = 113400 then (if t190 = 0 then (if t187 = 1 then (if t188 = 450 then (if t189 = 1 then (if t192 = 0 then (if t191.toList = ([50, 48, 50, 54, 45, 49, 49, 45, 49, 54] : List UInt8) then (if t196 = 0 then (if (t193 == 2026 && (t194 == 11 && (t195 == 16))) = true then (if t199 = 0 then (if t198.toList = ([48, 55, 58, 51, 48] : List UInt8) then (if t201 = 0 then (some (t200 == 450)) else (none)) else (none)) else (none)) else (none)) else (none)) else (none)) else (none)) else (none)) else (none)) else (none)) else (none)) else (none)) else (none)) else (none)) else (none)) else (none)) else (none)) else (none)) else (none)) else (none)) else (none)) else (none)) else (none)) else (none)) else (none))) else (none))))) = some r := by rw [if_pos rfl] at H; exact H
    clear H
    have H := H1
    clear H1
    replace H := Option.bind_eq_some_iff.mp H
    obtain ⟨t203, A140, H⟩ := H
    replace H : (if t203 = true then (none) else ((civil_DaysIn.f 2100 2).bind fun t204 => (if t204 = 28 then ((civil_Check.f k 2026 11 16).bind fun t205 => (if t205 = 0 then (if t169 = 0 then (if t168 = 9816 then (if t173 = 0 then (if (t170 == 2199 && (t171 == 12 && (t172 == 31))) = true then (if t176 = 0 then (if t175 = 1 then (if t179 = 0 then (if t177 = 1999 then (if t178 = 52 then (if t183 = 0 then (if t182 = 29 then (if t186 = 0 then (if t185 = 113400 then (if t190 = 0 then (if t187 = 1 then (if t188 = 450 then (if t189 = 1 then (if t192 = 0 then (if t191.toList = ([50, 48, 50, 54, 45, 49, 49, 45, 49, 54] : List UInt8) then (if t196 = 0 then (if (t193 == 2026 && (t194 == 11 && (t195 == 16))) = true then (if t199 = 0 then (if t198.toList = ([48, 55, 58, 51, 48] : List UInt8) then (if t201 = 0 then (some (t200 == 450)) else (none)) else (none)) else (none)) else (none)) else (none)) else (none)) else (none)) else (none)) else (none)) else (none)) else (none)) else (none)) else (none)) else (none)) else (none)) else (none)) else (none)) else (none)) else (none)) else (none)) else (none)) else (none)) else (none)) else (none)) else (none))) else (none)))) = some r := H
    have A14 := Aside0.mk A140
    clear A140
    by_cases c15 : t203 = true
    · subst c15
      have H1 : (none) = some r := by rw [if_pos rfl] at H; exact H
      clear H
      have H := H1
      clear H1
      exact absurd H (by simp)
    · replace c15 := Bool.eq_false_iff.mpr c15
      subst c15
      have H1 : ((civil_DaysIn.f 2100 2).bind fun t204 => (if t204 = 28 then ((civil_Check.f k 2026 11 16).bind fun t205 => (if t205 = 0 then (if t169 = 0 then (if t168 = 9816 then (if t173 = 0 then (if (t170 == 2199 && (t171 == 12 && (t172 == 31))) = true then (if t176 = 0 then (if t175 = 1 then (if t179 = 0 then (if t177 = 1999 then (if t178 = 52 then (if t183 = 0 then (if t182 = 29 then (if t186 = 0 then (if t185 = 113400 then (if t190 = 0 then (if t187 = 1 then (if t188 = 450 then (if t189 = 1 then (if t192 = 0 then (if t191.toList = ([50, 48, 50, 54, 45, 49, 49, 45, 49, 54] : List UInt8) then (if t196 = 0 then (if (t193 == 2026 && (t194 == 11 && (t195 == 16))) = true then (if t199 = 0 then (if t198.toList = ([48, 55, 58, 51, 48] : List UInt8) then (if t201 = 0 then (some (t200 == 450)) else (none)) else (none)) else (none)) else (none)) else (none)) else (none)) else (none)) else (none)) else (none)) else (none)) else (none)) else (none)) else (none)) else (none)) else (none)) else (none)) else (none)) else (none)) else (none)) else (none)) else (none)) else (none)) else (none)) else (none)) else (none))) else (none))) = some r := by rw [if_neg (show ¬ (false = true) by decide)] at H; exact H
      clear H
      have H := H1
      clear H1
      replace H := Option.bind_eq_some_iff.mp H
      obtain ⟨t204, A160, H⟩ := H
      replace H : (if t204 = 28 then ((civil_Check.f k 2026 11 16).bind fun t205 => (if t205 = 0 then (if t169 = 0 then (if t168 = 9816 then (if t173 = 0 then (if (t170 == 2199 && (t171 == 12 && (t172 == 31))) = true then (if t176 = 0 then (if t175 = 1 then (if t179 = 0 then (if t177 = 1999 then (if t178 = 52 then (if t183 = 0 then (if t182 = 29 then (if t186 = 0 then (if t185 = 113400 then (if t190 = 0 then (if t187 = 1 then (if t188 = 450 then (if t189 = 1 then (if t192 = 0 then (if t191.toList = ([50, 48, 50, 54, 45, 49, 49, 45, 49, 54] : List UInt8) then (if t196 = 0 then (if (t193 == 2026 && (t194 == 11 && (t195 == 16))) = true then (if t199 = 0 then (if t198.toList = ([48, 55, 58, 51, 48] : List UInt8) then (if t201 = 0 then (some (t200 == 450)) else (none)) else (none)) else (none)) else (none)) else (none)) else (none)) else (none)) else (none)) else (none)) else (none)) else (none)) else (none)) else (none)) else (none)) else (none)) else (none)) else (none)) else (none)) else (none)) else (none)) else (none)) else (none)) else (none)) else (none)) else (none))) else (none)) = some r := H
      have A16 := Aside0.mk A160
      clear A160
      by_cases c17 : t204 = 28
      · rw [if_pos c17] at H
        have c17b0 : (t204 == 28) = true := beq_iff_eq.mpr c17
        have c17b1 : (t204 != 28) = false := bne_eq_false_iff_eq.mpr c17
        clear c17
        replace H := Option.bind_eq_some_iff.mp H
        obtain ⟨t205, A180, H⟩ := H
        replace H : (if t205 = 0 then (if t169 = 0 then (if t168 = 9816 then (if t173 = 0 then (if (t170 == 2199 && (t171 == 12 && (t172 == 31))) = true then (if t176 = 0 then (if t175 = 1 then (if t179 = 0 then (if t177 = 1999 then (if t178 = 52 then (if t183 = 0 then (if t182 = 29 then (if t186 = 0 then (if t185 = 113400 then (if t190 = 0 then (if t187 = 1 then (if t188 = 450 then (if t189 = 1 then (if t192 = 0 then (if t191.toList = ([50, 48, 50, 54, 45, 49, 49, 45, 49, 54] : List UInt8) then (if t196 = 0 then (if (t193 == 2026 && (t194 == 11 && (t195 == 16))) = true then (if t199 = 0 then (if t198.toList = ([48, 55, 58, 51, 48] : List UInt8) then (if t201 = 0 then (some (t200 == 450)) else (none)) else (none)) else (none)) else (none)) else (none)) else (none)) else (none)) else (none)) else (none)) else (none)) else (none)) else (none)) else (none)) else (none)) else (none)) else (none)) else (none)) else (none)) else (none)) else (none)) else (none)) else (none)) else (none)) else (none)) else (none)) = some r := H
        have A18 := Aside0.mk A180
        clear A180
        by_cases c19 : t205 = 0
        · rw [if_pos c19] at H
          have c19b0 : (t205 == 0) = true := beq_iff_eq.mpr c19
          have c19b1 : (t205 != 0) = false := bne_eq_false_iff_eq.mpr c19
          clear c19
          by_cases c20 : t169 = 0
          · rw [if_pos c20] at H
            have c20b0 : (t169 == 0) = true := beq_iff_eq.mpr c20
            have c20b1 : (t169 != 0) = false := bne_eq_false_iff_eq.mpr c20
            clear c20
            by_cases c21 : t168 = 9816
            · rw [if_pos c21] at H
              have c21b0 : (t168 == 9816) = true := beq_iff_eq.mpr c21
              have c21b1 : (t168 != 9816) = false := bne_eq_false_iff_eq.mpr c21
              clear c21
              by_cases c22 : t173 = 0
              · rw [if_pos c22] at H
                have c22b0 : (t173 == 0) = true := beq_iff_eq.mpr c22
                have c22b1 : (t173 != 0) = false := bne_eq_false_iff_eq.mpr c22
                clear c22
                by_cases c23 : (t170 == 2199 && (t171 == 12 && (t172 == 31))) = true
                · rw [if_pos c23] at H
                  have c23b0 : (t170 == 2199 && (t171 == 12 && (t172 == 31))) = true := c23
                  (try (have c23b1 : decide (t170 = 2199 && (t171 == 12 && (t172 == 31))) = true := by simpa using c23))
                  (try (have c23b2 : (t170 == 2199 && (t171 == 12 && (t172 == 31))) = true := by simpa using c23))
                  clear c23
                  by_cases c24 : t176 = 0
                  · rw [if_pos c24] at H
                    have c24b0 : (t176 == 0) = true := beq_iff_eq.mpr c24
                    have c24b1 : (t176 != 0) = false := bne_eq_false_iff_eq.mpr c24
                    clear c24
                    by_cases c25 : t175 = 1
                    · rw [if_pos c25] at H
                      have c25b0 : (t175 == 1) = true := beq_iff_eq.mpr c25
                      have c25b1 : (t175 != 1) = false := bne_eq_false_iff_eq.mpr c25
                      clear c25
                      by_cases c26 : t179 = 0
                      · rw [if_pos c26] at H
                        have c26b0 : (t179 == 0) = true := beq_iff_eq.mpr c26
                        have c26b1 : (t179 != 0) = false := bne_eq_false_iff_eq.mpr c26
                        clear c26
                        by_cases c27 : t177 = 1999
                        · rw [if_pos c27] at H
                          have c27b0 : (t177 == 1999) = true := beq_iff_eq.mpr c27
                          have c27b1 : (t177 != 1999) = false := bne_eq_false_iff_eq.mpr c27
                          clear c27
                          by_cases c28 : t178 = 52
                          · rw [if_pos c28] at H
                            have c28b0 : (t178 == 52) = true := beq_iff_eq.mpr c28
                            have c28b1 : (t178 != 52) = false := bne_eq_false_iff_eq.mpr c28
                            clear c28
                            by_cases c29 : t183 = 0
                            · rw [if_pos c29] at H
                              have c29b0 : (t183 == 0) = true := beq_iff_eq.mpr c29
                              have c29b1 : (t183 != 0) = false := bne_eq_false_iff_eq.mpr c29
                              clear c29
                              by_cases c30 : t182 = 29
                              · rw [if_pos c30] at H
                                have c30b0 : (t182 == 29) = true := beq_iff_eq.mpr c30
                                have c30b1 : (t182 != 29) = false := bne_eq_false_iff_eq.mpr c30
                                clear c30
                                by_cases c31 : t186 = 0
                                · rw [if_pos c31] at H
                                  have c31b0 : (t186 == 0) = true := beq_iff_eq.mpr c31
                                  have c31b1 : (t186 != 0) = false := bne_eq_false_iff_eq.mpr c31
                                  clear c31
                                  by_cases c32 : t185 = 113400
                                  · rw [if_pos c32] at H
                                    have c32b0 : (t185 == 113400) = true := beq_iff_eq.mpr c32
                                    have c32b1 : (t185 != 113400) = false := bne_eq_false_iff_eq.mpr c32
                                    clear c32
                                    by_cases c33 : t190 = 0
                                    · rw [if_pos c33] at H
                                      have c33b0 : (t190 == 0) = true := beq_iff_eq.mpr c33
                                      have c33b1 : (t190 != 0) = false := bne_eq_false_iff_eq.mpr c33
                                      clear c33
                                      by_cases c34 : t187 = 1
                                      · rw [if_pos c34] at H
                                        have c34b0 : (t187 == 1) = true := beq_iff_eq.mpr c34
                                        have c34b1 : (t187 != 1) = false := bne_eq_false_iff_eq.mpr c34
                                        clear c34
                                        by_cases c35 : t188 = 450
                                        · rw [if_pos c35] at H
                                          have c35b0 : (t188 == 450) = true := beq_iff_eq.mpr c35
                                          have c35b1 : (t188 != 450) = false := bne_eq_false_iff_eq.mpr c35
                                          clear c35
                                          by_cases c36 : t189 = 1
                                          · rw [if_pos c36] at H
                                            have c36b0 : (t189 == 1) = true := beq_iff_eq.mpr c36
                                            have c36b1 : (t189 != 1) = false := bne_eq_false_iff_eq.mpr c36
                                            clear c36
                                            by_cases c37 : t192 = 0
                                            · rw [if_pos c37] at H
                                              have c37b0 : (t192 == 0) = true := beq_iff_eq.mpr c37
                                              have c37b1 : (t192 != 0) = false := bne_eq_false_iff_eq.mpr c37
                                              clear c37
                                              by_cases c38 : t191.toList = ([50, 48, 50, 54, 45, 49, 49, 45, 49, 54] : List UInt8)
                                              · rw [if_pos c38] at H
                                                have c38b0 : (t191.toList == ([50, 48, 50, 54, 45, 49, 49, 45, 49, 54] : List UInt8)) = true := beq_iff_eq.mpr c38
                                                have c38b1 : (t191.toList != ([50, 48, 50, 54, 45, 49, 49, 45, 49, 54] : List UInt8)) = false := bne_eq_false_iff_eq.mpr c38
                                                clear c38
                                                by_cases c39 : t196 = 0
                                                · rw [if_pos c39] at H
                                                  have c39b0 : (t196 == 0) = true := beq_iff_eq.mpr c39
                                                  have c39b1 : (t196 != 0) = false := bne_eq_false_iff_eq.mpr c39
                                                  clear c39
                                                  by_cases c40 : (t193 == 2026 && (t194 == 11 && (t195 == 16))) = true
                                                  · rw [if_pos c40] at H
                                                    have c40b0 : (t193 == 2026 && (t194 == 11 && (t195 == 16))) = true := c40
                                                    (try (have c40b1 : decide (t193 = 2026 && (t194 == 11 && (t195 == 16))) = true := by simpa using c40))
                                                    (try (have c40b2 : (t193 == 2026 && (t194 == 11 && (t195 == 16))) = true := by simpa using c40))
                                                    clear c40
                                                    by_cases c41 : t199 = 0
                                                    · rw [if_pos c41] at H
                                                      have c41b0 : (t199 == 0) = true := beq_iff_eq.mpr c41
                                                      have c41b1 : (t199 != 0) = false := bne_eq_false_iff_eq.mpr c41
                                                      clear c41
                                                      by_cases c42 : t198.toList = ([48, 55, 58, 51, 48] : List UInt8)
                                                      · rw [if_pos c42] at H
                                                        have c42b0 : (t198.toList == ([48, 55, 58, 51, 48] : List UInt8)) = true := beq_iff_eq.mpr c42
                                                        have c42b1 : (t198.toList != ([48, 55, 58, 51, 48] : List UInt8)) = false := bne_eq_false_iff_eq.mpr c42
                                                        clear c42
                                                        by_cases c43 : t201 = 0
                                                        · rw [if_pos c43] at H
                                                          have c43b0 : (t201 == 0) = true := beq_iff_eq.mpr c43
                                                          have c43b1 : (t201 != 0) = false := bne_eq_false_iff_eq.mpr c43
                                                          clear c43
                                                          obtain rfl := Option.some.inj H
                                                          go_enter Tryd.func11, Tryd.ntmps11
                                                          go_wp2_with (first | ((with_reducible refine gate_dst (N := 1) rfl ?_); refine box_event ?hg (N := 1) ?hd (cs := #[.int .i64 0, .int .i64 0, .int .i64 0]) (t := 23) ?hr ?_; (case hd => rfl); (case hg => rfl); (case hr => first | (go_simp; done) | (go_simp; rfl)); intro gb167 hg w44 hbox hb; have n0_ := Aside0.mk (below_step (by repeat (first | (with_reducible first | exact HB.out | apply below_alloc | apply pw_below_drewN | apply below_drew1) | exact HB.out)) hb); have n1_ := Aside0.mk (hbox); have n2_ := Aside0.mk ((by rw [hg]; exact (below_size (by repeat (first | (with_reducible first | exact HB.out | apply below_alloc | apply pw_below_drewN | apply below_drew1) | exact HB.out))) : w.heap.size ≤ gb167)); have n3_ := Aside0.mk ((by rw [hg]; exact (below_size (by repeat (first | (with_reducible first | exact HB.out | apply below_alloc | apply pw_below_drewN | apply below_drew1) | exact HB.out))) : w.heap.size ≤ gb167)); clear HB; have HB := n0_; have BK167 := n1_; have GW167 := n2_; have GE167 := n3_; clear n0_ n1_ n2_ n3_; clear hb hbox hg; have hcz45_0 : w44.cell? ⟨gb167, 0, none⟩ = some (.int .i64 0) := (blk_cell BK167.out 0).trans rfl; have hcz45_1 : w44.cell? ⟨gb167, 1, none⟩ = some (.int .i64 0) := (blk_cell BK167.out 1).trans rfl; have hcz45_2 : w44.cell? ⟨gb167, 2, none⟩ = some (.int .i64 0) := (blk_cell BK167.out 2).trans rfl; have hfz45_0 := blk_frozen BK167.out 0; have hfz45_1 := blk_frozen BK167.out 1; have hfz45_2 := blk_frozen BK167.out 2) | ((with_reducible refine gate_callee (f := 17) rfl ?_); refine goesL_ (some 30) rfl rfl Tryd.func17 (by kernel_rfl) rfl #[.agg #[.int .i64 2026, .int .i64 11, .int .i64 16]] rfl (by (try simp only [List.map_toArray, List.map_cons, List.map_nil]); first | done | rfl | (simp only [List.length_drop, List.length_take]; rfl)) ?_; (with_reducible refine (civil_Day.calls k 2026 11 16 t168 t169 _ ?sideLen A1.out).mono ?_); (case sideLen => exact LenAt.below HLEN.out (by repeat (first | (with_reducible first | exact HB.out | apply below_alloc | apply pw_below_drewN | apply below_drew1 | refine below_set ?_ GE167.out | refine below_set ?_ GE174.out | refine below_set ?_ GE184.out | refine below_set ?_ GE197.out) | exact HB.out))); rintro e w46 ⟨rfl, hb⟩; refine ⟨_, rfl, ?_⟩; have n0_ := Aside0.mk (blk_below (g := gb167) (o := .cells #[.int .i64 2026, .int .i64 11, .int .i64 16] 23 (0, 0)) (by (with_reducible repeat (first | refine blk_drewN ?_ _ | refine blk_drew ?_ | refine blk_alloc ?_ _)); refine blk_put (cs := #[.int .i64 2026, .int .i64 11, .int .i64 0]) ?_ 2 _ rfl; (with_reducible repeat (first | refine blk_drewN ?_ _ | refine blk_drew ?_ | refine blk_alloc ?_ _)); refine blk_put (cs := #[.int .i64 2026, .int .i64 0, .int .i64 0]) ?_ 1 _ rfl; (with_reducible repeat (first | refine blk_drewN ?_ _ | refine blk_drew ?_ | refine blk_alloc ?_ _)); refine blk_put (cs := #[.int .i64 0, .int .i64 0, .int .i64 0]) ?_ 0 _ rfl; (with_reducible repeat (first | refine blk_drewN ?_ _ | refine blk_drew ?_ | refine blk_alloc ?_ _)); exact BK167.out) hb); have n1_ := Aside0.mk (below_step (by repeat (first | (with_reducible first | exact HB.out | apply below_alloc | apply pw_below_drewN | apply below_drew1 | refine below_set ?_ GE167.out) | exact HB.out)) hb); clear BK167; clear HB; have BK167 := n0_; have HB := n1_; clear n0_ n1_; (try clear hb); (try clear hb2); (try clear hk); (try clear hi)) | ((with_reducible refine gate_callee (f := 22) rfl ?_); refine goesL_ (some 34) rfl rfl Tryd.func22 (by kernel_rfl) rfl #[.int .i64 73048] rfl (by (try simp only [List.map_toArray, List.map_cons, List.map_nil]); first | done | rfl | (simp only [List.length_drop, List.length_take]; rfl)) ?_; (with_reducible refine (civil_Of.calls k 73048 t170 t171 t172 t173 _ ?sideLen A2.out).mono ?_); (case sideLen => exact LenAt.below HLEN.out (by repeat (first | (with_reducible first | exact HB.out | apply below_alloc | apply pw_below_drewN | apply below_drew1 | refine below_set ?_ GE167.out | refine below_set ?_ GE174.out | refine below_set ?_ GE184.out | refine below_set ?_ GE197.out) | exact HB.out))); rintro e w47 ⟨rfl, hb⟩; refine ⟨_, rfl, ?_⟩; have n0_ := Aside0.mk (blk_below (g := gb167) (o := .cells #[.int .i64 2026, .int .i64 11, .int .i64 16] 23 (0, 0)) (by (with_reducible repeat (first | refine blk_drewN ?_ _ | refine blk_drew ?_ | refine blk_alloc ?_ _)); exact BK167.out) hb); have n1_ := Aside0.mk (below_step (by repeat (first | (with_reducible first | exact HB.out | apply below_alloc | apply pw_below_drewN | apply below_drew1 | refine below_set ?_ GE167.out) | exact HB.out)) hb); clear BK167; clear HB; have BK167 := n0_; have HB := n1_; clear n0_ n1_; (try clear hb); (try clear hb2); (try clear hk); (try clear hi)) | ((with_reducible refine gate_dst (N := 4) rfl ?_); refine box_event ?hg (N := 4) ?hd (cs := #[.int .i64 0, .int .i64 0, .int .i64 0]) (t := 23) ?hr ?_; (case hd => rfl); (case hg => rfl); (case hr => first | (go_simp; done) | (go_simp; rfl)); intro gb174 hg w48 hbox hb; have n0_ := Aside0.mk (blk_below (g := gb167) (o := .cells #[.int .i64 2026, .int .i64 11, .int .i64 16] 23 (0, 0)) (by (with_reducible repeat (first | refine blk_drewN ?_ _ | refine blk_drew ?_ | refine blk_alloc ?_ _)); exact BK167.out) hb); have n1_ := Aside0.mk (below_step (by repeat (first | (with_reducible first | exact HB.out | apply below_alloc | apply pw_below_drewN | apply below_drew1 | refine below_set ?_ GE167.out) | exact HB.out)) hb); have n2_ := Aside0.mk (hbox); have n3_ := Aside0.mk ((by rw [hg]; exact (below_size (by repeat (first | (with_reducible first | exact HB.out | apply below_alloc | apply pw_below_drewN | apply below_drew1 | refine below_set ?_ GE167.out) | exact HB.out))) : w.heap.size ≤ gb174)); have n4_ := Aside0.mk ((by rw [hg]; exact (below_size (by repeat (first | (with_reducible first | exact HB.out | apply below_alloc | apply pw_below_drewN | apply below_drew1 | refine below_set ?_ GE167.out) | exact HB.out))) : w.heap.size ≤ gb174)); have n5_ := Aside0.mk ((by rw [hg]; exact Nat.ne_of_lt (blk_lt (g := gb167) (o := .cells #[.int .i64 2026, .int .i64 11, .int .i64 16] 23 (0, 0)) (by (with_reducible repeat (first | refine blk_drewN ?_ _ | refine blk_drew ?_ | refine blk_alloc ?_ _)); exact BK167.out)) : gb167 ≠ gb174)); have n6_ := Aside0.mk ((by rw [hg]; exact Nat.ne_of_gt (blk_lt (g := gb167) (o := .cells #[.int .i64 2026, .int .i64 11, .int .i64 16] 23 (0, 0)) (by (with_reducible repeat (first | refine blk_drewN ?_ _ | refine blk_drew ?_ | refine blk_alloc ?_ _)); exact BK167.out)) : gb174 ≠ gb167)); clear BK167; clear HB; have BK167 := n0_; have HB := n1_; have BK174 := n2_; have GW174 := n3_; have GE174 := n4_; have NB167_174 := n5_; have NB174_167 := n6_; clear n0_ n1_ n2_ n3_ n4_ n5_ n6_; clear hb hbox hg; have hnb49 := NB174_167.out; have hnc49 := NB167_174.out; have hcz50_0 : w48.cell? ⟨gb174, 0, none⟩ = some (.int .i64 0) := (blk_cell BK174.out 0).trans rfl; have hcz50_1 : w48.cell? ⟨gb174, 1, none⟩ = some (.int .i64 0) := (blk_cell BK174.out 1).trans rfl; have hcz50_2 : w48.cell? ⟨gb174, 2, none⟩ = some (.int .i64 0) := (blk_cell BK174.out 2).trans rfl; have hfz50_0 := blk_frozen BK174.out 0; have hfz50_1 := blk_frozen BK174.out 1; have hfz50_2 := blk_frozen BK174.out 2) | ((with_reducible refine gate_callee (f := 23) rfl ?_); refine goesL_ (some 39) rfl rfl Tryd.func23 (by kernel_rfl) rfl #[.int .i64 t168] rfl (by (try simp only [List.map_toArray, List.map_cons, List.map_nil]); first | done | rfl | (simp only [List.length_drop, List.length_take]; rfl)) ?_; (with_reducible refine (civil_Weekday.calls t168 t175 t176 _ A3.out).mono ?_); rintro e w' ⟨rfl, ⟨nd, rfl⟩⟩; refine ⟨_, rfl, ?_⟩) | ((with_reducible refine gate_callee (f := 24) rfl ?_); refine goesL_ (some 43) rfl rfl Tryd.func24 (by kernel_rfl) rfl #[.int .i64 0] rfl (by (try simp only [List.map_toArray, List.map_cons, List.map_nil]); first | done | rfl | (simp only [List.length_drop, List.length_take]; rfl)) ?_; (with_reducible refine (civil_Week.calls k 0 t177 t178 t179 _ A4.out).mono ?_); rintro e w' ⟨rfl, ⟨nd, rfl⟩⟩; refine ⟨_, rfl, ?_⟩) | ((with_reducible refine gate_callee (f := 28) rfl ?_); refine goesL_ (some 49) rfl rfl Tryd.func28 (by kernel_rfl) rfl #[.agg #[.int .i64 2024, .int .i64 1, .int .i64 31], .int .i64 1] rfl (by (try simp only [List.map_toArray, List.map_cons, List.map_nil]); first | done | rfl | (simp only [List.length_drop, List.length_take]; rfl)) ?_; (with_reducible refine (civil_Months.calls k 2024 1 31 1 t180 t181 t182 t183 _ ?sideLen A5.out).mono ?_); (case sideLen => exact LenAt.below HLEN.out (by repeat (first | (with_reducible first | exact HB.out | apply below_alloc | apply pw_below_drewN | apply below_drew1 | refine below_set ?_ GE167.out | refine below_set ?_ GE174.out | refine below_set ?_ GE184.out | refine below_set ?_ GE197.out) | exact HB.out))); rintro e w51 ⟨rfl, hb⟩; refine ⟨_, rfl, ?_⟩; have n0_ := Aside0.mk (blk_below (g := gb167) (o := .cells #[.int .i64 2026, .int .i64 11, .int .i64 16] 23 (0, 0)) (by (with_reducible repeat (first | refine blk_drewN ?_ _ | refine blk_drew ?_ | refine blk_alloc ?_ _)); refine blk_far ?_ NB167_174.out _; (with_reducible repeat (first | refine blk_drewN ?_ _ | refine blk_drew ?_ | refine blk_alloc ?_ _)); refine blk_far ?_ NB167_174.out _; (with_reducible repeat (first | refine blk_drewN ?_ _ | refine blk_drew ?_ | refine blk_alloc ?_ _)); refine blk_far ?_ NB167_174.out _; (with_reducible repeat (first | refine blk_drewN ?_ _ | refine blk_drew ?_ | refine blk_alloc ?_ _)); exact BK167.out) hb); have n1_ := Aside0.mk (blk_below (g := gb174) (o := .cells #[.int .i64 t170, .int .i64 t171, .int .i64 t172] 23 (0, 0)) (by (with_reducible repeat (first | refine blk_drewN ?_ _ | refine blk_drew ?_ | refine blk_alloc ?_ _)); refine blk_put (cs := #[.int .i64 t170, .int .i64 t171, .int .i64 0]) ?_ 2 _ rfl; (with_reducible repeat (first | refine blk_drewN ?_ _ | refine blk_drew ?_ | refine blk_alloc ?_ _)); refine blk_put (cs := #[.int .i64 t170, .int .i64 0, .int .i64 0]) ?_ 1 _ rfl; (with_reducible repeat (first | refine blk_drewN ?_ _ | refine blk_drew ?_ | refine blk_alloc ?_ _)); refine blk_put (cs := #[.int .i64 0, .int .i64 0, .int .i64 0]) ?_ 0 _ rfl; (with_reducible repeat (first | refine blk_drewN ?_ _ | refine blk_drew ?_ | refine blk_alloc ?_ _)); exact BK174.out) hb); have n2_ := Aside0.mk (below_step (by repeat (first | (with_reducible first | exact HB.out | apply below_alloc | apply pw_below_drewN | apply below_drew1 | refine below_set ?_ GE167.out | refine below_set ?_ GE174.out) | exact HB.out)) hb); clear BK167; clear BK174; clear HB; have BK167 := n0_; have BK174 := n1_; have HB := n2_; clear n0_ n1_ n2_; (try clear hb); (try clear hb2); (try clear hk); (try clear hi)) | ((with_reducible refine gate_dst (N := 11) rfl ?_); refine box_event ?hg (N := 11) ?hd (cs := #[.int .i64 0, .int .i64 0, .int .i64 0]) (t := 23) ?hr ?_; (case hd => rfl); (case hg => rfl); (case hr => first | (go_simp; done) | (go_simp; rfl)); intro gb184 hg w52 hbox hb; have n0_ := Aside0.mk (blk_below (g := gb167) (o := .cells #[.int .i64 2026, .int .i64 11, .int .i64 16] 23 (0, 0)) (by (with_reducible repeat (first | refine blk_drewN ?_ _ | refine blk_drew ?_ | refine blk_alloc ?_ _)); exact BK167.out) hb); have n1_ := Aside0.mk (blk_below (g := gb174) (o := .cells #[.int .i64 t170, .int .i64 t171, .int .i64 t172] 23 (0, 0)) (by (with_reducible repeat (first | refine blk_drewN ?_ _ | refine blk_drew ?_ | refine blk_alloc ?_ _)); exact BK174.out) hb); have n2_ := Aside0.mk (below_step (by repeat (first | (with_reducible first | exact HB.out | apply below_alloc | apply pw_below_drewN | apply below_drew1 | refine below_set ?_ GE167.out | refine below_set ?_ GE174.out) | exact HB.out)) hb); have n3_ := Aside0.mk (hbox); have n4_ := Aside0.mk ((by rw [hg]; exact (below_size (by repeat (first | (with_reducible first | exact HB.out | apply below_alloc | apply pw_below_drewN | apply below_drew1 | refine below_set ?_ GE167.out | refine below_set ?_ GE174.out) | exact HB.out))) : w.heap.size ≤ gb184)); have n5_ := Aside0.mk ((by rw [hg]; exact (below_size (by repeat (first | (with_reducible first | exact HB.out | apply below_alloc | apply pw_below_drewN | apply below_drew1 | refine below_set ?_ GE167.out | refine below_set ?_ GE174.out) | exact HB.out))) : w.heap.size ≤ gb184)); have n6_ := Aside0.mk ((by rw [hg]; exact Nat.ne_of_lt (blk_lt (g := gb167) (o := .cells #[.int .i64 2026, .int .i64 11, .int .i64 16] 23 (0, 0)) (by (with_reducible repeat (first | refine blk_drewN ?_ _ | refine blk_drew ?_ | refine blk_alloc ?_ _)); exact BK167.out)) : gb167 ≠ gb184)); have n7_ := Aside0.mk ((by rw [hg]; exact Nat.ne_of_gt (blk_lt (g := gb167) (o := .cells #[.int .i64 2026, .int .i64 11, .int .i64 16] 23 (0, 0)) (by (with_reducible repeat (first | refine blk_drewN ?_ _ | refine blk_drew ?_ | refine blk_alloc ?_ _)); exact BK167.out)) : gb184 ≠ gb167)); have n8_ := Aside0.mk ((by rw [hg]; exact Nat.ne_of_lt (blk_lt (g := gb174) (o := .cells #[.int .i64 t170, .int .i64 t171, .int .i64 t172] 23 (0, 0)) (by (with_reducible repeat (first | refine blk_drewN ?_ _ | refine blk_drew ?_ | refine blk_alloc ?_ _)); exact BK174.out)) : gb174 ≠ gb184)); have n9_ := Aside0.mk ((by rw [hg]; exact Nat.ne_of_gt (blk_lt (g := gb174) (o := .cells #[.int .i64 t170, .int .i64 t171, .int .i64 t172] 23 (0, 0)) (by (with_reducible repeat (first | refine blk_drewN ?_ _ | refine blk_drew ?_ | refine blk_alloc ?_ _)); exact BK174.out)) : gb184 ≠ gb174)); clear BK167; clear BK174; clear HB; have BK167 := n0_; have BK174 := n1_; have HB := n2_; have BK184 := n3_; have GW184 := n4_; have GE184 := n5_; have NB167_184 := n6_; have NB184_167 := n7_; have NB174_184 := n8_; have NB184_174 := n9_; clear n0_ n1_ n2_ n3_ n4_ n5_ n6_ n7_ n8_ n9_; clear hb hbox hg; have hnb53 := NB184_167.out; have hnc53 := NB167_184.out; have hnb54 := NB184_174.out; have hnc54 := NB174_184.out; have hcz55_0 : w52.cell? ⟨gb184, 0, none⟩ = some (.int .i64 0) := (blk_cell BK184.out 0).trans rfl; have hcz55_1 : w52.cell? ⟨gb184, 1, none⟩ = some (.int .i64 0) := (blk_cell BK184.out 1).trans rfl; have hcz55_2 : w52.cell? ⟨gb184, 2, none⟩ = some (.int .i64 0) := (blk_cell BK184.out 2).trans rfl; have hfz55_0 := blk_frozen BK184.out 0; have hfz55_1 := blk_frozen BK184.out 1; have hfz55_2 := blk_frozen BK184.out 2) | ((with_reducible refine gate_callee (f := 30) rfl ?_); refine goesL_ (some 53) rfl rfl Tryd.func30 (by kernel_rfl) rfl #[.int .i64 1, .int .i64 450] rfl (by (try simp only [List.map_toArray, List.map_cons, List.map_nil]); first | done | rfl | (simp only [List.length_drop, List.length_take]; rfl)) ?_; (with_reducible refine (civil_At.calls 1 450 t185 t186 _ A6.out).mono ?_); rintro e w' ⟨rfl, ⟨nd, rfl⟩⟩; refine ⟨_, rfl, ?_⟩) | ((with_reducible refine gate_callee (f := 31) rfl ?_); refine goesL_ (some 57) rfl rfl Tryd.func31 (by kernel_rfl) rfl #[.int .i64 113401] rfl (by (try simp only [List.map_toArray, List.map_cons, List.map_nil]); first | done | rfl | (simp only [List.length_drop, List.length_take]; rfl)) ?_; (with_reducible refine (civil_Split.calls 113401 t187 t188 t189 t190 _ A7.out).mono ?_); rintro e w' ⟨rfl, ⟨nd, rfl⟩⟩; refine ⟨_, rfl, ?_⟩; have hcz56_0 : w52.cell? ⟨gb167, 0, none⟩ = some (.int .i64 2026) := (blk_cell BK167.out 0).trans rfl; have hcz56_1 : w52.cell? ⟨gb167, 1, none⟩ = some (.int .i64 11) := (blk_cell BK167.out 1).trans rfl; have hcz56_2 : w52.cell? ⟨gb167, 2, none⟩ = some (.int .i64 16) := (blk_cell BK167.out 2).trans rfl; have hfz56_0 := blk_frozen BK167.out 0; have hfz56_1 := blk_frozen BK167.out 1; have hfz56_2 := blk_frozen BK167.out 2) | ((with_reducible refine gate_callee (f := 18) rfl ?_); refine goesL_ (some 64) rfl rfl Tryd.func18 (by kernel_rfl) rfl #[.agg #[.int .i64 2026, .int .i64 11, .int .i64 16]] rfl (by (try simp only [List.map_toArray, List.map_cons, List.map_nil]); first | done | rfl | (simp only [List.length_drop, List.length_take]; rfl)) ?_; (with_reducible refine (civil_Text.calls k 2026 11 16 t191 t192 _ ?sideLen A8.out).mono ?_); (case sideLen => exact LenAt.below HLEN.out (by repeat (first | (with_reducible first | exact HB.out | apply below_alloc | apply pw_below_drewN | apply below_drew1 | refine below_set ?_ GE167.out | refine below_set ?_ GE174.out | refine below_set ?_ GE184.out | refine below_set ?_ GE197.out) | exact HB.out))); rintro e w57 ⟨rfl, hb⟩; refine ⟨_, rfl, ?_⟩; have n0_ := Aside0.mk (blk_below (g := gb167) (o := .cells #[.int .i64 2026, .int .i64 11, .int .i64 16] 23 (0, 0)) (by (with_reducible repeat (first | refine blk_drewN ?_ _ | refine blk_drew ?_ | refine blk_alloc ?_ _)); refine blk_far ?_ NB167_184.out _; (with_reducible repeat (first | refine blk_drewN ?_ _ | refine blk_drew ?_ | refine blk_alloc ?_ _)); refine blk_far ?_ NB167_184.out _; (with_reducible repeat (first | refine blk_drewN ?_ _ | refine blk_drew ?_ | refine blk_alloc ?_ _)); refine blk_far ?_ NB167_184.out _; (with_reducible repeat (first | refine blk_drewN ?_ _ | refine blk_drew ?_ | refine blk_alloc ?_ _)); exact BK167.out) hb); have n1_ := Aside0.mk (blk_below (g := gb174) (o := .cells #[.int .i64 t170, .int .i64 t171, .int .i64 t172] 23 (0, 0)) (by (with_reducible repeat (first | refine blk_drewN ?_ _ | refine blk_drew ?_ | refine blk_alloc ?_ _)); refine blk_far ?_ NB174_184.out _; (with_reducible repeat (first | refine blk_drewN ?_ _ | refine blk_drew ?_ | refine blk_alloc ?_ _)); refine blk_far ?_ NB174_184.out _; (with_reducible repeat (first | refine blk_drewN ?_ _ | refine blk_drew ?_ | refine blk_alloc ?_ _)); refine blk_far ?_ NB174_184.out _; (with_reducible repeat (first | refine blk_drewN ?_ _ | refine blk_drew ?_ | refine blk_alloc ?_ _)); exact BK174.out) hb); have n2_ := Aside0.mk (blk_below (g := gb184) (o := .cells #[.int .i64 t180, .int .i64 t181, .int .i64 t182] 23 (0, 0)) (by (with_reducible repeat (first | refine blk_drewN ?_ _ | refine blk_drew ?_ | refine blk_alloc ?_ _)); refine blk_put (cs := #[.int .i64 t180, .int .i64 t181, .int .i64 0]) ?_ 2 _ rfl; (with_reducible repeat (first | refine blk_drewN ?_ _ | refine blk_drew ?_ | refine blk_alloc ?_ _)); refine blk_put (cs := #[.int .i64 t180, .int .i64 0, .int .i64 0]) ?_ 1 _ rfl; (with_reducible repeat (first | refine blk_drewN ?_ _ | refine blk_drew ?_ | refine blk_alloc ?_ _)); refine blk_put (cs := #[.int .i64 0, .int .i64 0, .int .i64 0]) ?_ 0 _ rfl; (with_reducible repeat (first | refine blk_drewN ?_ _ | refine blk_drew ?_ | refine blk_alloc ?_ _)); exact BK184.out) hb); have n3_ := Aside0.mk (below_step (by repeat (first | (with_reducible first | exact HB.out | apply below_alloc | apply pw_below_drewN | apply below_drew1 | refine below_set ?_ GE167.out | refine below_set ?_ GE174.out | refine below_set ?_ GE184.out) | exact HB.out)) hb); clear BK167; clear BK174; clear BK184; clear HB; have BK167 := n0_; have BK174 := n1_; have BK184 := n2_; have HB := n3_; clear n0_ n1_ n2_ n3_; (try clear hb); (try clear hb2); (try clear hk); (try clear hi)) | ((with_reducible refine gate_callee (f := 32) rfl ?_); refine goesL_ (some 68) rfl rfl Tryd.func32 (by kernel_rfl) rfl #[.string (⟨#[50, 48, 50, 54, 45, 49, 49, 45, 49, 54]⟩ : ByteArray)] rfl (by (try simp only [List.map_toArray, List.map_cons, List.map_nil]); first | done | rfl | (simp only [List.length_drop, List.length_take]; rfl)) ?_; (with_reducible refine (civil_Parse.calls k (⟨#[50, 48, 50, 54, 45, 49, 49, 45, 49, 54]⟩ : ByteArray) t193 t194 t195 t196 _ ?sideLen A9.out).mono ?_); (case sideLen => exact LenAt.below HLEN.out (by repeat (first | (with_reducible first | exact HB.out | apply below_alloc | apply pw_below_drewN | apply below_drew1 | refine below_set ?_ GE167.out | refine below_set ?_ GE174.out | refine below_set ?_ GE184.out | refine below_set ?_ GE197.out) | exact HB.out))); rintro e w58 ⟨rfl, hb⟩; refine ⟨_, rfl, ?_⟩; have n0_ := Aside0.mk (blk_below (g := gb167) (o := .cells #[.int .i64 2026, .int .i64 11, .int .i64 16] 23 (0, 0)) (by (with_reducible repeat (first | refine blk_drewN ?_ _ | refine blk_drew ?_ | refine blk_alloc ?_ _)); exact BK167.out) hb); have n1_ := Aside0.mk (blk_below (g := gb174) (o := .cells #[.int .i64 t170, .int .i64 t171, .int .i64 t172] 23 (0, 0)) (by (with_reducible repeat (first | refine blk_drewN ?_ _ | refine blk_drew ?_ | refine blk_alloc ?_ _)); exact BK174.out) hb); have n2_ := Aside0.mk (blk_below (g := gb184) (o := .cells #[.int .i64 t180, .int .i64 t181, .int .i64 t182] 23 (0, 0)) (by (with_reducible repeat (first | refine blk_drewN ?_ _ | refine blk_drew ?_ | refine blk_alloc ?_ _)); exact BK184.out) hb); have n3_ := Aside0.mk (below_step (by repeat (first | (with_reducible first | exact HB.out | apply below_alloc | apply pw_below_drewN | apply below_drew1 | refine below_set ?_ GE167.out | refine below_set ?_ GE174.out | refine below_set ?_ GE184.out) | exact HB.out)) hb); clear BK167; clear BK174; clear BK184; clear HB; have BK167 := n0_; have BK174 := n1_; have BK184 := n2_; have HB := n3_; clear n0_ n1_ n2_ n3_; (try clear hb); (try clear hb2); (try clear hk); (try clear hi)) | ((with_reducible refine gate_dst (N := 21) rfl ?_); refine box_event ?hg (N := 21) ?hd (cs := #[.int .i64 0, .int .i64 0, .int .i64 0]) (t := 23) ?hr ?_; (case hd => rfl); (case hg => rfl); (case hr => first | (go_simp; done) | (go_simp; rfl)); intro gb197 hg w59 hbox hb; have n0_ := Aside0.mk (blk_below (g := gb167) (o := .cells #[.int .i64 2026, .int .i64 11, .int .i64 16] 23 (0, 0)) (by (with_reducible repeat (first | refine blk_drewN ?_ _ | refine blk_drew ?_ | refine blk_alloc ?_ _)); exact BK167.out) hb); have n1_ := Aside0.mk (blk_below (g := gb174) (o := .cells #[.int .i64 t170, .int .i64 t171, .int .i64 t172] 23 (0, 0)) (by (with_reducible repeat (first | refine blk_drewN ?_ _ | refine blk_drew ?_ | refine blk_alloc ?_ _)); exact BK174.out) hb); have n2_ := Aside0.mk (blk_below (g := gb184) (o := .cells #[.int .i64 t180, .int .i64 t181, .int .i64 t182] 23 (0, 0)) (by (with_reducible repeat (first | refine blk_drewN ?_ _ | refine blk_drew ?_ | refine blk_alloc ?_ _)); exact BK184.out) hb); have n3_ := Aside0.mk (below_step (by repeat (first | (with_reducible first | exact HB.out | apply below_alloc | apply pw_below_drewN | apply below_drew1 | refine below_set ?_ GE167.out | refine below_set ?_ GE174.out | refine below_set ?_ GE184.out) | exact HB.out)) hb); have n4_ := Aside0.mk (hbox); have n5_ := Aside0.mk ((by rw [hg]; exact (below_size (by repeat (first | (with_reducible first | exact HB.out | apply below_alloc | apply pw_below_drewN | apply below_drew1 | refine below_set ?_ GE167.out | refine below_set ?_ GE174.out | refine below_set ?_ GE184.out) | exact HB.out))) : w.heap.size ≤ gb197)); have n6_ := Aside0.mk ((by rw [hg]; exact (below_size (by repeat (first | (with_reducible first | exact HB.out | apply below_alloc | apply pw_below_drewN | apply below_drew1 | refine below_set ?_ GE167.out | refine below_set ?_ GE174.out | refine below_set ?_ GE184.out) | exact HB.out))) : w.heap.size ≤ gb197)); have n7_ := Aside0.mk ((by rw [hg]; exact Nat.ne_of_lt (blk_lt (g := gb167) (o := .cells #[.int .i64 2026, .int .i64 11, .int .i64 16] 23 (0, 0)) (by (with_reducible repeat (first | refine blk_drewN ?_ _ | refine blk_drew ?_ | refine blk_alloc ?_ _)); exact BK167.out)) : gb167 ≠ gb197)); have n8_ := Aside0.mk ((by rw [hg]; exact Nat.ne_of_gt (blk_lt (g := gb167) (o := .cells #[.int .i64 2026, .int .i64 11, .int .i64 16] 23 (0, 0)) (by (with_reducible repeat (first | refine blk_drewN ?_ _ | refine blk_drew ?_ | refine blk_alloc ?_ _)); exact BK167.out)) : gb197 ≠ gb167)); have n9_ := Aside0.mk ((by rw [hg]; exact Nat.ne_of_lt (blk_lt (g := gb174) (o := .cells #[.int .i64 t170, .int .i64 t171, .int .i64 t172] 23 (0, 0)) (by (with_reducible repeat (first | refine blk_drewN ?_ _ | refine blk_drew ?_ | refine blk_alloc ?_ _)); exact BK174.out)) : gb174 ≠ gb197)); have n10_ := Aside0.mk ((by rw [hg]; exact Nat.ne_of_gt (blk_lt (g := gb174) (o := .cells #[.int .i64 t170, .int .i64 t171, .int .i64 t172] 23 (0, 0)) (by (with_reducible repeat (first | refine blk_drewN ?_ _ | refine blk_drew ?_ | refine blk_alloc ?_ _)); exact BK174.out)) : gb197 ≠ gb174)); have n11_ := Aside0.mk ((by rw [hg]; exact Nat.ne_of_lt (blk_lt (g := gb184) (o := .cells #[.int .i64 t180, .int .i64 t181, .int .i64 t182] 23 (0, 0)) (by (with_reducible repeat (first | refine blk_drewN ?_ _ | refine blk_drew ?_ | refine blk_alloc ?_ _)); exact BK184.out)) : gb184 ≠ gb197)); have n12_ := Aside0.mk ((by rw [hg]; exact Nat.ne_of_gt (blk_lt (g := gb184) (o := .cells #[.int .i64 t180, .int .i64 t181, .int .i64 t182] 23 (0, 0)) (by (with_reducible repeat (first | refine blk_drewN ?_ _ | refine blk_drew ?_ | refine blk_alloc ?_ _)); exact BK184.out)) : gb197 ≠ gb184)); clear BK167; clear BK174; clear BK184; clear HB; have BK167 := n0_; have BK174 := n1_; have BK184 := n2_; have HB := n3_; have BK197 := n4_; have GW197 := n5_; have GE197 := n6_; have NB167_197 := n7_; have NB197_167 := n8_; have NB174_197 := n9_; have NB197_174 := n10_; have NB184_197 := n11_; have NB197_184 := n12_; clear n0_ n1_ n2_ n3_ n4_ n5_ n6_ n7_ n8_ n9_ n10_ n11_ n12_; clear hb hbox hg; have hnb60 := NB197_167.out; have hnc60 := NB167_197.out; have hnb61 := NB197_174.out; have hnc61 := NB174_197.out; have hnb62 := NB197_184.out; have hnc62 := NB184_197.out; have hcz63_0 : w59.cell? ⟨gb197, 0, none⟩ = some (.int .i64 0) := (blk_cell BK197.out 0).trans rfl; have hcz63_1 : w59.cell? ⟨gb197, 1, none⟩ = some (.int .i64 0) := (blk_cell BK197.out 1).trans rfl; have hcz63_2 : w59.cell? ⟨gb197, 2, none⟩ = some (.int .i64 0) := (blk_cell BK197.out 2).trans rfl; have hfz63_0 := blk_frozen BK197.out 0; have hfz63_1 := blk_frozen BK197.out 1; have hfz63_2 := blk_frozen BK197.out 2) | ((with_reducible refine gate_callee (f := 36) rfl ?_); refine goesL_ (some 72) rfl rfl Tryd.func36 (by kernel_rfl) rfl #[.int .i64 450] rfl (by (try simp only [List.map_toArray, List.map_cons, List.map_nil]); first | done | rfl | (simp only [List.length_drop, List.length_take]; rfl)) ?_; (with_reducible refine (civil_Clock.calls k 450 t198 t199 _ A10.out).mono ?_); rintro e w64 ⟨rfl, hb⟩; refine ⟨_, rfl, ?_⟩; have n0_ := Aside0.mk (blk_below (g := gb167) (o := .cells #[.int .i64 2026, .int .i64 11, .int .i64 16] 23 (0, 0)) (by (with_reducible repeat (first | refine blk_drewN ?_ _ | refine blk_drew ?_ | refine blk_alloc ?_ _)); refine blk_far ?_ NB167_197.out _; (with_reducible repeat (first | refine blk_drewN ?_ _ | refine blk_drew ?_ | refine blk_alloc ?_ _)); refine blk_far ?_ NB167_197.out _; (with_reducible repeat (first | refine blk_drewN ?_ _ | refine blk_drew ?_ | refine blk_alloc ?_ _)); refine blk_far ?_ NB167_197.out _; (with_reducible repeat (first | refine blk_drewN ?_ _ | refine blk_drew ?_ | refine blk_alloc ?_ _)); exact BK167.out) hb); have n1_ := Aside0.mk (blk_below (g := gb174) (o := .cells #[.int .i64 t170, .int .i64 t171, .int .i64 t172] 23 (0, 0)) (by (with_reducible repeat (first | refine blk_drewN ?_ _ | refine blk_drew ?_ | refine blk_alloc ?_ _)); refine blk_far ?_ NB174_197.out _; (with_reducible repeat (first | refine blk_drewN ?_ _ | refine blk_drew ?_ | refine blk_alloc ?_ _)); refine blk_far ?_ NB174_197.out _; (with_reducible repeat (first | refine blk_drewN ?_ _ | refine blk_drew ?_ | refine blk_alloc ?_ _)); refine blk_far ?_ NB174_197.out _; (with_reducible repeat (first | refine blk_drewN ?_ _ | refine blk_drew ?_ | refine blk_alloc ?_ _)); exact BK174.out) hb); have n2_ := Aside0.mk (blk_below (g := gb184) (o := .cells #[.int .i64 t180, .int .i64 t181, .int .i64 t182] 23 (0, 0)) (by (with_reducible repeat (first | refine blk_drewN ?_ _ | refine blk_drew ?_ | refine blk_alloc ?_ _)); refine blk_far ?_ NB184_197.out _; (with_reducible repeat (first | refine blk_drewN ?_ _ | refine blk_drew ?_ | refine blk_alloc ?_ _)); refine blk_far ?_ NB184_197.out _; (with_reducible repeat (first | refine blk_drewN ?_ _ | refine blk_drew ?_ | refine blk_alloc ?_ _)); refine blk_far ?_ NB184_197.out _; (with_reducible repeat (first | refine blk_drewN ?_ _ | refine blk_drew ?_ | refine blk_alloc ?_ _)); exact BK184.out) hb); have n3_ := Aside0.mk (blk_below (g := gb197) (o := .cells #[.int .i64 t193, .int .i64 t194, .int .i64 t195] 23 (0, 0)) (by (with_reducible repeat (first | refine blk_drewN ?_ _ | refine blk_drew ?_ | refine blk_alloc ?_ _)); refine blk_put (cs := #[.int .i64 t193, .int .i64 t194, .int .i64 0]) ?_ 2 _ rfl; (with_reducible repeat (first | refine blk_drewN ?_ _ | refine blk_drew ?_ | refine blk_alloc ?_ _)); refine blk_put (cs := #[.int .i64 t193, .int .i64 0, .int .i64 0]) ?_ 1 _ rfl; (with_reducible repeat (first | refine blk_drewN ?_ _ | refine blk_drew ?_ | refine blk_alloc ?_ _)); refine blk_put (cs := #[.int .i64 0, .int .i64 0, .int .i64 0]) ?_ 0 _ rfl; (with_reducible repeat (first | refine blk_drewN ?_ _ | refine blk_drew ?_ | refine blk_alloc ?_ _)); exact BK197.out) hb); have n4_ := Aside0.mk (below_step (by repeat (first | (with_reducible first | exact HB.out | apply below_alloc | apply pw_below_drewN | apply below_drew1 | refine below_set ?_ GE167.out | refine below_set ?_ GE174.out | refine below_set ?_ GE184.out | refine below_set ?_ GE197.out) | exact HB.out)) hb); clear BK167; clear BK174; clear BK184; clear BK197; clear HB; have BK167 := n0_; have BK174 := n1_; have BK184 := n2_; have BK197 := n3_; have HB := n4_; clear n0_ n1_ n2_ n3_ n4_; (try clear hb); (try clear hb2); (try clear hk); (try clear hi)) | ((with_reducible refine gate_callee (f := 34) rfl ?_); refine goesL_ (some 76) rfl rfl Tryd.func34 (by kernel_rfl) rfl #[.string (⟨#[48, 55, 58, 51, 48]⟩ : ByteArray)] rfl (by (try simp only [List.map_toArray, List.map_cons, List.map_nil]); first | done | rfl | (simp only [List.length_drop, List.length_take]; rfl)) ?_; (with_reducible refine (civil_ParseClock.calls k (⟨#[48, 55, 58, 51, 48]⟩ : ByteArray) t200 t201 _ A11.out).mono ?_); rintro e w65 ⟨rfl, hb⟩; refine ⟨_, rfl, ?_⟩; have n0_ := Aside0.mk (blk_below (g := gb167) (o := .cells #[.int .i64 2026, .int .i64 11, .int .i64 16] 23 (0, 0)) (by (with_reducible repeat (first | refine blk_drewN ?_ _ | refine blk_drew ?_ | refine blk_alloc ?_ _)); exact BK167.out) hb); have n1_ := Aside0.mk (blk_below (g := gb174) (o := .cells #[.int .i64 t170, .int .i64 t171, .int .i64 t172] 23 (0, 0)) (by (with_reducible repeat (first | refine blk_drewN ?_ _ | refine blk_drew ?_ | refine blk_alloc ?_ _)); exact BK174.out) hb); have n2_ := Aside0.mk (blk_below (g := gb184) (o := .cells #[.int .i64 t180, .int .i64 t181, .int .i64 t182] 23 (0, 0)) (by (with_reducible repeat (first | refine blk_drewN ?_ _ | refine blk_drew ?_ | refine blk_alloc ?_ _)); exact BK184.out) hb); have n3_ := Aside0.mk (blk_below (g := gb197) (o := .cells #[.int .i64 t193, .int .i64 t194, .int .i64 t195] 23 (0, 0)) (by (with_reducible repeat (first | refine blk_drewN ?_ _ | refine blk_drew ?_ | refine blk_alloc ?_ _)); exact BK197.out) hb); have n4_ := Aside0.mk (below_step (by repeat (first | (with_reducible first | exact HB.out | apply below_alloc | apply pw_below_drewN | apply below_drew1 | refine below_set ?_ GE167.out | refine below_set ?_ GE174.out | refine below_set ?_ GE184.out | refine below_set ?_ GE197.out) | exact HB.out)) hb); clear BK167; clear BK174; clear BK184; clear BK197; clear HB; have BK167 := n0_; have BK174 := n1_; have BK184 := n2_; have BK197 := n3_; have HB := n4_; clear n0_ n1_ n2_ n3_ n4_; (try clear hb); (try clear hb2); (try clear hk); (try clear hi)) | ((with_reducible refine gate_callee (f := 12) rfl ?_); refine goesL_ (some 79) rfl rfl Tryd.func12 (by kernel_rfl) rfl #[.int .i64 2096] rfl (by (try simp only [List.map_toArray, List.map_cons, List.map_nil]); first | done | rfl | (simp only [List.length_drop, List.length_take]; rfl)) ?_; (with_reducible refine (civil_Leap.calls 2096 true _ A12.out).mono ?_); rintro e w' ⟨rfl, ⟨nd, rfl⟩⟩; refine ⟨_, rfl, ?_⟩) | (go_at_call 12; (with_reducible refine (civil_Leap.calls 2100 false _ A14.out).mono ?_); rintro e w' ⟨rfl, ⟨nd, rfl⟩⟩) | (go_at_call 14; (with_reducible refine (civil_DaysIn.calls 2100 2 t204 _ ?sideLen A16.out).mono ?_); (case sideLen => exact LenAt.below HLEN.out (by repeat (first | (with_reducible first | exact HB.out | apply below_alloc | apply pw_below_drewN | apply below_drew1 | refine below_set ?_ GE167.out | refine below_set ?_ GE174.out | refine below_set ?_ GE184.out | refine below_set ?_ GE197.out) | exact HB.out))); rintro e w' ⟨rfl, ⟨nd, rfl⟩⟩; have hcz66_0 : w65.cell? ⟨gb167, 0, none⟩ = some (.int .i64 2026) := (blk_cell BK167.out 0).trans rfl; have hcz66_1 : w65.cell? ⟨gb167, 1, none⟩ = some (.int .i64 11) := (blk_cell BK167.out 1).trans rfl; have hcz66_2 : w65.cell? ⟨gb167, 2, none⟩ = some (.int .i64 16) := (blk_cell BK167.out 2).trans rfl; have hfz66_0 := blk_frozen BK167.out 0; have hfz66_1 := blk_frozen BK167.out 1; have hfz66_2 := blk_frozen BK167.out 2) | (go_at_call 19; (with_reducible refine (civil_Check.calls k 2026 11 16 t205 _ ?sideLen A18.out).mono ?_); (case sideLen => exact LenAt.below HLEN.out (by repeat (first | (with_reducible first | exact HB.out | apply below_alloc | apply pw_below_drewN | apply below_drew1 | refine below_set ?_ GE167.out | refine below_set ?_ GE174.out | refine below_set ?_ GE184.out | refine below_set ?_ GE197.out) | exact HB.out))); rintro e w67 ⟨rfl, hb⟩; have n0_ := Aside0.mk (blk_below (g := gb167) (o := .cells #[.int .i64 2026, .int .i64 11, .int .i64 16] 23 (0, 0)) (by (with_reducible repeat (first | refine blk_drewN ?_ _ | refine blk_drew ?_ | refine blk_alloc ?_ _)); exact BK167.out) hb); have n1_ := Aside0.mk (blk_below (g := gb174) (o := .cells #[.int .i64 t170, .int .i64 t171, .int .i64 t172] 23 (0, 0)) (by (with_reducible repeat (first | refine blk_drewN ?_ _ | refine blk_drew ?_ | refine blk_alloc ?_ _)); exact BK174.out) hb); have n2_ := Aside0.mk (blk_below (g := gb184) (o := .cells #[.int .i64 t180, .int .i64 t181, .int .i64 t182] 23 (0, 0)) (by (with_reducible repeat (first | refine blk_drewN ?_ _ | refine blk_drew ?_ | refine blk_alloc ?_ _)); exact BK184.out) hb); have n3_ := Aside0.mk (blk_below (g := gb197) (o := .cells #[.int .i64 t193, .int .i64 t194, .int .i64 t195] 23 (0, 0)) (by (with_reducible repeat (first | refine blk_drewN ?_ _ | refine blk_drew ?_ | refine blk_alloc ?_ _)); exact BK197.out) hb); have n4_ := Aside0.mk (below_step (by repeat (first | (with_reducible first | exact HB.out | apply below_alloc | apply pw_below_drewN | apply below_drew1 | refine below_set ?_ GE167.out | refine below_set ?_ GE174.out | refine below_set ?_ GE184.out | refine below_set ?_ GE197.out) | exact HB.out)) hb); clear BK167; clear BK174; clear BK184; clear BK197; clear HB; have BK167 := n0_; have BK174 := n1_; have BK184 := n2_; have BK197 := n3_; have HB := n4_; clear n0_ n1_ n2_ n3_ n4_; (try clear hb); (try clear hb2); (try clear hk); (try clear hi); have hcz68_0 : w67.cell? ⟨gb174, 0, none⟩ = some (.int .i64 t170) := (blk_cell BK174.out 0).trans rfl; have hcz68_1 : w67.cell? ⟨gb174, 1, none⟩ = some (.int .i64 t171) := (blk_cell BK174.out 1).trans rfl; have hcz68_2 : w67.cell? ⟨gb174, 2, none⟩ = some (.int .i64 t172) := (blk_cell BK174.out 2).trans rfl; have hfz68_0 := blk_frozen BK174.out 0; have hfz68_1 := blk_frozen BK174.out 1; have hfz68_2 := blk_frozen BK174.out 2; have hcz69_0 : w67.cell? ⟨gb184, 0, none⟩ = some (.int .i64 t180) := (blk_cell BK184.out 0).trans rfl; have hcz69_1 : w67.cell? ⟨gb184, 1, none⟩ = some (.int .i64 t181) := (blk_cell BK184.out 1).trans rfl; have hcz69_2 : w67.cell? ⟨gb184, 2, none⟩ = some (.int .i64 t182) := (blk_cell BK184.out 2).trans rfl; have hfz69_0 := blk_frozen BK184.out 0; have hfz69_1 := blk_frozen BK184.out 1; have hfz69_2 := blk_frozen BK184.out 2; have hcz70_0 : w67.cell? ⟨gb197, 0, none⟩ = some (.int .i64 t193) := (blk_cell BK197.out 0).trans rfl; have hcz70_1 : w67.cell? ⟨gb197, 1, none⟩ = some (.int .i64 t194) := (blk_cell BK197.out 1).trans rfl; have hcz70_2 : w67.cell? ⟨gb197, 2, none⟩ = some (.int .i64 t195) := (blk_cell BK197.out 2).trans rfl; have hfz70_0 := blk_frozen BK197.out 0; have hfz70_1 := blk_frozen BK197.out 1; have hfz70_2 := blk_frozen BK197.out 2; have hcz71_0 : w67.cell? ⟨gb167, 0, none⟩ = some (.int .i64 2026) := (blk_cell BK167.out 0).trans rfl; have hcz71_1 : w67.cell? ⟨gb167, 1, none⟩ = some (.int .i64 11) := (blk_cell BK167.out 1).trans rfl; have hcz71_2 : w67.cell? ⟨gb167, 2, none⟩ = some (.int .i64 16) := (blk_cell BK167.out 2).trans rfl; have hfz71_0 := blk_frozen BK167.out 0; have hfz71_1 := blk_frozen BK167.out 1; have hfz71_2 := blk_frozen BK167.out 2) | (go_at_call 17; (with_reducible refine (civil_Day.calls k 2026 11 16 t168 t169 _ ?sideLen A1.out).mono ?_); (case sideLen => exact LenAt.below HLEN.out (by repeat (first | (with_reducible first | exact HB.out | apply below_alloc | apply pw_below_drewN | apply below_drew1 | refine below_set ?_ GE167.out | refine below_set ?_ GE174.out | refine below_set ?_ GE184.out | refine below_set ?_ GE197.out) | exact HB.out))); rintro e w46 ⟨rfl, hb⟩; have n0_ := Aside0.mk (blk_below (g := gb167) (o := .cells #[.int .i64 2026, .int .i64 11, .int .i64 16] 23 (0, 0)) (by (with_reducible repeat (first | refine blk_drewN ?_ _ | refine blk_drew ?_ | refine blk_alloc ?_ _)); refine blk_put (cs := #[.int .i64 2026, .int .i64 11, .int .i64 0]) ?_ 2 _ rfl; (with_reducible repeat (first | refine blk_drewN ?_ _ | refine blk_drew ?_ | refine blk_alloc ?_ _)); refine blk_put (cs := #[.int .i64 2026, .int .i64 0, .int .i64 0]) ?_ 1 _ rfl; (with_reducible repeat (first | refine blk_drewN ?_ _ | refine blk_drew ?_ | refine blk_alloc ?_ _)); refine blk_put (cs := #[.int .i64 0, .int .i64 0, .int .i64 0]) ?_ 0 _ rfl; (with_reducible repeat (first | refine blk_drewN ?_ _ | refine blk_drew ?_ | refine blk_alloc ?_ _)); exact BK167.out) hb); have n1_ := Aside0.mk (below_step (by repeat (first | (with_reducible first | exact HB.out | apply below_alloc | apply pw_below_drewN | apply below_drew1 | refine below_set ?_ GE167.out) | exact HB.out)) hb); clear BK167; clear HB; have BK167 := n0_; have HB := n1_; clear n0_ n1_; (try clear hb); (try clear hb2); (try clear hk); (try clear hi)) | (go_at_call 22; (with_reducible refine (civil_Of.calls k 73048 t170 t171 t172 t173 _ ?sideLen A2.out).mono ?_); (case sideLen => exact LenAt.below HLEN.out (by repeat (first | (with_reducible first | exact HB.out | apply below_alloc | apply pw_below_drewN | apply below_drew1 | refine below_set ?_ GE167.out | refine below_set ?_ GE174.out | refine below_set ?_ GE184.out | refine below_set ?_ GE197.out) | exact HB.out))); rintro e w47 ⟨rfl, hb⟩; have n0_ := Aside0.mk (blk_below (g := gb167) (o := .cells #[.int .i64 2026, .int .i64 11, .int .i64 16] 23 (0, 0)) (by (with_reducible repeat (first | refine blk_drewN ?_ _ | refine blk_drew ?_ | refine blk_alloc ?_ _)); exact BK167.out) hb); have n1_ := Aside0.mk (below_step (by repeat (first | (with_reducible first | exact HB.out | apply below_alloc | apply pw_below_drewN | apply below_drew1 | refine below_set ?_ GE167.out) | exact HB.out)) hb); clear BK167; clear HB; have BK167 := n0_; have HB := n1_; clear n0_ n1_; (try clear hb); (try clear hb2); (try clear hk); (try clear hi)) | (go_at_call 23; (with_reducible refine (civil_Weekday.calls t168 t175 t176 _ A3.out).mono ?_); rintro e w' ⟨rfl, ⟨nd, rfl⟩⟩) | (go_at_call 24; (with_reducible refine (civil_Week.calls k 0 t177 t178 t179 _ A4.out).mono ?_); rintro e w' ⟨rfl, ⟨nd, rfl⟩⟩) | (go_at_call 28; (with_reducible refine (civil_Months.calls k 2024 1 31 1 t180 t181 t182 t183 _ ?sideLen A5.out).mono ?_); (case sideLen => exact LenAt.below HLEN.out (by repeat (first | (with_reducible first | exact HB.out | apply below_alloc | apply pw_below_drewN | apply below_drew1 | refine below_set ?_ GE167.out | refine below_set ?_ GE174.out | refine below_set ?_ GE184.out | refine below_set ?_ GE197.out) | exact HB.out))); rintro e w51 ⟨rfl, hb⟩; have n0_ := Aside0.mk (blk_below (g := gb167) (o := .cells #[.int .i64 2026, .int .i64 11, .int .i64 16] 23 (0, 0)) (by (with_reducible repeat (first | refine blk_drewN ?_ _ | refine blk_drew ?_ | refine blk_alloc ?_ _)); refine blk_far ?_ NB167_174.out _; (with_reducible repeat (first | refine blk_drewN ?_ _ | refine blk_drew ?_ | refine blk_alloc ?_ _)); refine blk_far ?_ NB167_174.out _; (with_reducible repeat (first | refine blk_drewN ?_ _ | refine blk_drew ?_ | refine blk_alloc ?_ _)); refine blk_far ?_ NB167_174.out _; (with_reducible repeat (first | refine blk_drewN ?_ _ | refine blk_drew ?_ | refine blk_alloc ?_ _)); exact BK167.out) hb); have n1_ := Aside0.mk (blk_below (g := gb174) (o := .cells #[.int .i64 t170, .int .i64 t171, .int .i64 t172] 23 (0, 0)) (by (with_reducible repeat (first | refine blk_drewN ?_ _ | refine blk_drew ?_ | refine blk_alloc ?_ _)); refine blk_put (cs := #[.int .i64 t170, .int .i64 t171, .int .i64 0]) ?_ 2 _ rfl; (with_reducible repeat (first | refine blk_drewN ?_ _ | refine blk_drew ?_ | refine blk_alloc ?_ _)); refine blk_put (cs := #[.int .i64 t170, .int .i64 0, .int .i64 0]) ?_ 1 _ rfl; (with_reducible repeat (first | refine blk_drewN ?_ _ | refine blk_drew ?_ | refine blk_alloc ?_ _)); refine blk_put (cs := #[.int .i64 0, .int .i64 0, .int .i64 0]) ?_ 0 _ rfl; (with_reducible repeat (first | refine blk_drewN ?_ _ | refine blk_drew ?_ | refine blk_alloc ?_ _)); exact BK174.out) hb); have n2_ := Aside0.mk (below_step (by repeat (first | (with_reducible first | exact HB.out | apply below_alloc | apply pw_below_drewN | apply below_drew1 | refine below_set ?_ GE167.out | refine below_set ?_ GE174.out) | exact HB.out)) hb); clear BK167; clear BK174; clear HB; have BK167 := n0_; have BK174 := n1_; have HB := n2_; clear n0_ n1_ n2_; (try clear hb); (try clear hb2); (try clear hk); (try clear hi)) | (go_at_call 30; (with_reducible refine (civil_At.calls 1 450 t185 t186 _ A6.out).mono ?_); rintro e w' ⟨rfl, ⟨nd, rfl⟩⟩) | (go_at_call 31; (with_reducible refine (civil_Split.calls 113401 t187 t188 t189 t190 _ A7.out).mono ?_); rintro e w' ⟨rfl, ⟨nd, rfl⟩⟩; have hcz56_0 : w52.cell? ⟨gb167, 0, none⟩ = some (.int .i64 2026) := (blk_cell BK167.out 0).trans rfl; have hcz56_1 : w52.cell? ⟨gb167, 1, none⟩ = some (.int .i64 11) := (blk_cell BK167.out 1).trans rfl; have hcz56_2 : w52.cell? ⟨gb167, 2, none⟩ = some (.int .i64 16) := (blk_cell BK167.out 2).trans rfl; have hfz56_0 := blk_frozen BK167.out 0; have hfz56_1 := blk_frozen BK167.out 1; have hfz56_2 := blk_frozen BK167.out 2) | (go_at_call 18; (with_reducible refine (civil_Text.calls k 2026 11 16 t191 t192 _ ?sideLen A8.out).mono ?_); (case sideLen => exact LenAt.below HLEN.out (by repeat (first | (with_reducible first | exact HB.out | apply below_alloc | apply pw_below_drewN | apply below_drew1 | refine below_set ?_ GE167.out | refine below_set ?_ GE174.out | refine below_set ?_ GE184.out | refine below_set ?_ GE197.out) | exact HB.out))); rintro e w57 ⟨rfl, hb⟩; have n0_ := Aside0.mk (blk_below (g := gb167) (o := .cells #[.int .i64 2026, .int .i64 11, .int .i64 16] 23 (0, 0)) (by (with_reducible repeat (first | refine blk_drewN ?_ _ | refine blk_drew ?_ | refine blk_alloc ?_ _)); refine blk_far ?_ NB167_184.out _; (with_reducible repeat (first | refine blk_drewN ?_ _ | refine blk_drew ?_ | refine blk_alloc ?_ _)); refine blk_far ?_ NB167_184.out _; (with_reducible repeat (first | refine blk_drewN ?_ _ | refine blk_drew ?_ | refine blk_alloc ?_ _)); refine blk_far ?_ NB167_184.out _; (with_reducible repeat (first | refine blk_drewN ?_ _ | refine blk_drew ?_ | refine blk_alloc ?_ _)); exact BK167.out) hb); have n1_ := Aside0.mk (blk_below (g := gb174) (o := .cells #[.int .i64 t170, .int .i64 t171, .int .i64 t172] 23 (0, 0)) (by (with_reducible repeat (first | refine blk_drewN ?_ _ | refine blk_drew ?_ | refine blk_alloc ?_ _)); refine blk_far ?_ NB174_184.out _; (with_reducible repeat (first | refine blk_drewN ?_ _ | refine blk_drew ?_ | refine blk_alloc ?_ _)); refine blk_far ?_ NB174_184.out _; (with_reducible repeat (first | refine blk_drewN ?_ _ | refine blk_drew ?_ | refine blk_alloc ?_ _)); refine blk_far ?_ NB174_184.out _; (with_reducible repeat (first | refine blk_drewN ?_ _ | refine blk_drew ?_ | refine blk_alloc ?_ _)); exact BK174.out) hb); have n2_ := Aside0.mk (blk_below (g := gb184) (o := .cells #[.int .i64 t180, .int .i64 t181, .int .i64 t182] 23 (0, 0)) (by (with_reducible repeat (first | refine blk_drewN ?_ _ | refine blk_drew ?_ | refine blk_alloc ?_ _)); refine blk_put (cs := #[.int .i64 t180, .int .i64 t181, .int .i64 0]) ?_ 2 _ rfl; (with_reducible repeat (first | refine blk_drewN ?_ _ | refine blk_drew ?_ | refine blk_alloc ?_ _)); refine blk_put (cs := #[.int .i64 t180, .int .i64 0, .int .i64 0]) ?_ 1 _ rfl; (with_reducible repeat (first | refine blk_drewN ?_ _ | refine blk_drew ?_ | refine blk_alloc ?_ _)); refine blk_put (cs := #[.int .i64 0, .int .i64 0, .int .i64 0]) ?_ 0 _ rfl; (with_reducible repeat (first | refine blk_drewN ?_ _ | refine blk_drew ?_ | refine blk_alloc ?_ _)); exact BK184.out) hb); have n3_ := Aside0.mk (below_step (by repeat (first | (with_reducible first | exact HB.out | apply below_alloc | apply pw_below_drewN | apply below_drew1 | refine below_set ?_ GE167.out | refine below_set ?_ GE174.out | refine below_set ?_ GE184.out) | exact HB.out)) hb); clear BK167; clear BK174; clear BK184; clear HB; have BK167 := n0_; have BK174 := n1_; have BK184 := n2_; have HB := n3_; clear n0_ n1_ n2_ n3_; (try clear hb); (try clear hb2); (try clear hk); (try clear hi)) | (go_at_call 32; (with_reducible refine (civil_Parse.calls k (⟨#[50, 48, 50, 54, 45, 49, 49, 45, 49, 54]⟩ : ByteArray) t193 t194 t195 t196 _ ?sideLen A9.out).mono ?_); (case sideLen => exact LenAt.below HLEN.out (by repeat (first | (with_reducible first | exact HB.out | apply below_alloc | apply pw_below_drewN | apply below_drew1 | refine below_set ?_ GE167.out | refine below_set ?_ GE174.out | refine below_set ?_ GE184.out | refine below_set ?_ GE197.out) | exact HB.out))); rintro e w58 ⟨rfl, hb⟩; have n0_ := Aside0.mk (blk_below (g := gb167) (o := .cells #[.int .i64 2026, .int .i64 11, .int .i64 16] 23 (0, 0)) (by (with_reducible repeat (first | refine blk_drewN ?_ _ | refine blk_drew ?_ | refine blk_alloc ?_ _)); exact BK167.out) hb); have n1_ := Aside0.mk (blk_below (g := gb174) (o := .cells #[.int .i64 t170, .int .i64 t171, .int .i64 t172] 23 (0, 0)) (by (with_reducible repeat (first | refine blk_drewN ?_ _ | refine blk_drew ?_ | refine blk_alloc ?_ _)); exact BK174.out) hb); have n2_ := Aside0.mk (blk_below (g := gb184) (o := .cells #[.int .i64 t180, .int .i64 t181, .int .i64 t182] 23 (0, 0)) (by (with_reducible repeat (first | refine blk_drewN ?_ _ | refine blk_drew ?_ | refine blk_alloc ?_ _)); exact BK184.out) hb); have n3_ := Aside0.mk (below_step (by repeat (first | (with_reducible first | exact HB.out | apply below_alloc | apply pw_below_drewN | apply below_drew1 | refine below_set ?_ GE167.out | refine below_set ?_ GE174.out | refine below_set ?_ GE184.out) | exact HB.out)) hb); clear BK167; clear BK174; clear BK184; clear HB; have BK167 := n0_; have BK174 := n1_; have BK184 := n2_; have HB := n3_; clear n0_ n1_ n2_ n3_; (try clear hb); (try clear hb2); (try clear hk); (try clear hi)) | (go_at_call 36; (with_reducible refine (civil_Clock.calls k 450 t198 t199 _ A10.out).mono ?_); rintro e w64 ⟨rfl, hb⟩; have n0_ := Aside0.mk (blk_below (g := gb167) (o := .cells #[.int .i64 2026, .int .i64 11, .int .i64 16] 23 (0, 0)) (by (with_reducible repeat (first | refine blk_drewN ?_ _ | refine blk_drew ?_ | refine blk_alloc ?_ _)); refine blk_far ?_ NB167_197.out _; (with_reducible repeat (first | refine blk_drewN ?_ _ | refine blk_drew ?_ | refine blk_alloc ?_ _)); refine blk_far ?_ NB167_197.out _; (with_reducible repeat (first | refine blk_drewN ?_ _ | refine blk_drew ?_ | refine blk_alloc ?_ _)); refine blk_far ?_ NB167_197.out _; (with_reducible repeat (first | refine blk_drewN ?_ _ | refine blk_drew ?_ | refine blk_alloc ?_ _)); exact BK167.out) hb); have n1_ := Aside0.mk (blk_below (g := gb174) (o := .cells #[.int .i64 t170, .int .i64 t171, .int .i64 t172] 23 (0, 0)) (by (with_reducible repeat (first | refine blk_drewN ?_ _ | refine blk_drew ?_ | refine blk_alloc ?_ _)); refine blk_far ?_ NB174_197.out _; (with_reducible repeat (first | refine blk_drewN ?_ _ | refine blk_drew ?_ | refine blk_alloc ?_ _)); refine blk_far ?_ NB174_197.out _; (with_reducible repeat (first | refine blk_drewN ?_ _ | refine blk_drew ?_ | refine blk_alloc ?_ _)); refine blk_far ?_ NB174_197.out _; (with_reducible repeat (first | refine blk_drewN ?_ _ | refine blk_drew ?_ | refine blk_alloc ?_ _)); exact BK174.out) hb); have n2_ := Aside0.mk (blk_below (g := gb184) (o := .cells #[.int .i64 t180, .int .i64 t181, .int .i64 t182] 23 (0, 0)) (by (with_reducible repeat (first | refine blk_drewN ?_ _ | refine blk_drew ?_ | refine blk_alloc ?_ _)); refine blk_far ?_ NB184_197.out _; (with_reducible repeat (first | refine blk_drewN ?_ _ | refine blk_drew ?_ | refine blk_alloc ?_ _)); refine blk_far ?_ NB184_197.out _; (with_reducible repeat (first | refine blk_drewN ?_ _ | refine blk_drew ?_ | refine blk_alloc ?_ _)); refine blk_far ?_ NB184_197.out _; (with_reducible repeat (first | refine blk_drewN ?_ _ | refine blk_drew ?_ | refine blk_alloc ?_ _)); exact BK184.out) hb); have n3_ := Aside0.mk (blk_below (g := gb197) (o := .cells #[.int .i64 t193, .int .i64 t194, .int .i64 t195] 23 (0, 0)) (by (with_reducible repeat (first | refine blk_drewN ?_ _ | refine blk_drew ?_ | refine blk_alloc ?_ _)); refine blk_put (cs := #[.int .i64 t193, .int .i64 t194, .int .i64 0]) ?_ 2 _ rfl; (with_reducible repeat (first | refine blk_drewN ?_ _ | refine blk_drew ?_ | refine blk_alloc ?_ _)); refine blk_put (cs := #[.int .i64 t193, .int .i64 0, .int .i64 0]) ?_ 1 _ rfl; (with_reducible repeat (first | refine blk_drewN ?_ _ | refine blk_drew ?_ | refine blk_alloc ?_ _)); refine blk_put (cs := #[.int .i64 0, .int .i64 0, .int .i64 0]) ?_ 0 _ rfl; (with_reducible repeat (first | refine blk_drewN ?_ _ | refine blk_drew ?_ | refine blk_alloc ?_ _)); exact BK197.out) hb); have n4_ := Aside0.mk (below_step (by repeat (first | (with_reducible first | exact HB.out | apply below_alloc | apply pw_below_drewN | apply below_drew1 | refine below_set ?_ GE167.out | refine below_set ?_ GE174.out | refine below_set ?_ GE184.out | refine below_set ?_ GE197.out) | exact HB.out)) hb); clear BK167; clear BK174; clear BK184; clear BK197; clear HB; have BK167 := n0_; have BK174 := n1_; have BK184 := n2_; have BK197 := n3_; have HB := n4_; clear n0_ n1_ n2_ n3_ n4_; (try clear hb); (try clear hb2); (try clear hk); (try clear hi)) | (go_at_call 34; (with_reducible refine (civil_ParseClock.calls k (⟨#[48, 55, 58, 51, 48]⟩ : ByteArray) t200 t201 _ A11.out).mono ?_); rintro e w65 ⟨rfl, hb⟩; have n0_ := Aside0.mk (blk_below (g := gb167) (o := .cells #[.int .i64 2026, .int .i64 11, .int .i64 16] 23 (0, 0)) (by (with_reducible repeat (first | refine blk_drewN ?_ _ | refine blk_drew ?_ | refine blk_alloc ?_ _)); exact BK167.out) hb); have n1_ := Aside0.mk (blk_below (g := gb174) (o := .cells #[.int .i64 t170, .int .i64 t171, .int .i64 t172] 23 (0, 0)) (by (with_reducible repeat (first | refine blk_drewN ?_ _ | refine blk_drew ?_ | refine blk_alloc ?_ _)); exact BK174.out) hb); have n2_ := Aside0.mk (blk_below (g := gb184) (o := .cells #[.int .i64 t180, .int .i64 t181, .int .i64 t182] 23 (0, 0)) (by (with_reducible repeat (first | refine blk_drewN ?_ _ | refine blk_drew ?_ | refine blk_alloc ?_ _)); exact BK184.out) hb); have n3_ := Aside0.mk (blk_below (g := gb197) (o := .cells #[.int .i64 t193, .int .i64 t194, .int .i64 t195] 23 (0, 0)) (by (with_reducible repeat (first | refine blk_drewN ?_ _ | refine blk_drew ?_ | refine blk_alloc ?_ _)); exact BK197.out) hb); have n4_ := Aside0.mk (below_step (by repeat (first | (with_reducible first | exact HB.out | apply below_alloc | apply pw_below_drewN | apply below_drew1 | refine below_set ?_ GE167.out | refine below_set ?_ GE174.out | refine below_set ?_ GE184.out | refine below_set ?_ GE197.out) | exact HB.out)) hb); clear BK167; clear BK174; clear BK184; clear BK197; clear HB; have BK167 := n0_; have BK174 := n1_; have BK184 := n2_; have BK197 := n3_; have HB := n4_; clear n0_ n1_ n2_ n3_ n4_; (try clear hb); (try clear hb2); (try clear hk); (try clear hi)) | (go_at_call 12; (with_reducible refine (civil_Leap.calls 2096 true _ A12.out).mono ?_); rintro e w' ⟨rfl, ⟨nd, rfl⟩⟩))
                                                          go_ret
                                                          exact ⟨by first | rfl | (simp [errW_none, errW_some] <;> rfl) | (simp [*, errW_none, errW_some] <;> rfl), by repeat (first | (with_reducible first | exact HB.out | apply below_alloc | apply pw_below_drewN | apply below_drew1 | refine below_set ?_ GE167.out | refine below_set ?_ GE174.out | refine below_set ?_ GE184.out | refine below_set ?_ GE197.out) | exact HB.out)⟩
                                                        · rw [if_neg c43] at H
                                                          exact absurd H (by simp)
                                                      · rw [if_neg c42] at H
                                                        exact absurd H (by simp)
                                                    · rw [if_neg c41] at H
                                                      exact absurd H (by simp)
                                                  · rw [if_neg c40] at H
                                                    exact absurd H (by simp)
                                                · rw [if_neg c39] at H
                                                  exact absurd H (by simp)
                                              · rw [if_neg c38] at H
                                                exact absurd H (by simp)
                                            · rw [if_neg c37] at H
                                              exact absurd H (by simp)
                                          · rw [if_neg c36] at H
                                            exact absurd H (by simp)
                                        · rw [if_neg c35] at H
                                          exact absurd H (by simp)
                                      · rw [if_neg c34] at H
                                        exact absurd H (by simp)
                                    · rw [if_neg c33] at H
                                      exact absurd H (by simp)
                                  · rw [if_neg c32] at H
                                    exact absurd H (by simp)
                                · rw [if_neg c31] at H
                                  exact absurd H (by simp)
                              · rw [if_neg c30] at H
                                exact absurd H (by simp)
                            · rw [if_neg c29] at H
                              exact absurd H (by simp)
                          · rw [if_neg c28] at H
                            exact absurd H (by simp)
                        · rw [if_neg c27] at H
                          exact absurd H (by simp)
                      · rw [if_neg c26] at H
                        exact absurd H (by simp)
                    · rw [if_neg c25] at H
                      exact absurd H (by simp)
                  · rw [if_neg c24] at H
                    exact absurd H (by simp)
                · rw [if_neg c23] at H
                  exact absurd H (by simp)
              · rw [if_neg c22] at H
                exact absurd H (by simp)
            · rw [if_neg c21] at H
              exact absurd H (by simp)
          · rw [if_neg c20] at H
            exact absurd H (by simp)
        · rw [if_neg c19] at H
          exact absurd H (by simp)
      · rw [if_neg c17] at H
        exact absurd H (by simp)
  · replace c13 := Bool.eq_false_iff.mpr c13
    subst c13
    have H1 : (none) = some r := by rw [if_neg (show ¬ (false = true) by decide)] at H; exact H
    clear H
    have H := H1
    clear H1
    exact absurd H (by simp)

/-! ### plenumref05_Leap: function 13 -/
def plenumref05_Leap.f (a0 : Int) : Option (Bool) := if (Int.tmod a0 4) = 0 then (if (Int.tmod a0 100) = 0 then (some ((Int.tmod a0 400) == 0)) else (some true)) else (some ((Int.tmod a0 400) == 0))
set_option maxHeartbeats 8000000 in
set_option maxRecDepth 100000 in
theorem plenumref05_Leap.calls (a0 : Int) (r : Bool) (w : World) (h : plenumref05_Leap.f a0 = some r) :
    Calls Tryd.prog 13 #[.int .i64 a0] w fun e w' => e = .returned (.bool r) ∧ Drawn0 w w' := by
  have H : (if (Int.tmod a0 4) = 0 then (if (Int.tmod a0 100) = 0 then (some ((Int.tmod a0 400) == 0)) else (some true)) else (some ((Int.tmod a0 400) == 0))) = some r := h
  clear h
  by_cases c2 : (Int.tmod a0 4) = 0
  · rw [if_pos c2] at H
    have c2b0 : ((Int.tmod a0 4) == 0) = true := beq_iff_eq.mpr c2
    have c2b1 : ((Int.tmod a0 4) != 0) = false := bne_eq_false_iff_eq.mpr c2
    clear c2
    by_cases c3 : (Int.tmod a0 100) = 0
    · rw [if_pos c3] at H
      have c3b0 : ((Int.tmod a0 100) == 0) = true := beq_iff_eq.mpr c3
      have c3b1 : ((Int.tmod a0 100) != 0) = false := bne_eq_false_iff_eq.mpr c3
      clear c3
      obtain rfl := Option.some.inj H
      go_enter Tryd.func13, Tryd.ntmps13
      go_wp2
      go_ret
      exact ⟨by first | rfl | (simp; done) | (simp [*]; done), by repeat (first | exact Drawn0.refl _ | apply Drawn0.step)⟩
    · rw [if_neg c3] at H
      have c3b0 : ((Int.tmod a0 100) == 0) = false := beq_eq_false_iff_ne.mpr c3
      have c3b1 : ((Int.tmod a0 100) != 0) = true := bne_iff_ne.mpr c3
      obtain rfl := Option.some.inj H
      go_enter Tryd.func13, Tryd.ntmps13
      go_wp2
      go_ret
      exact ⟨by first | rfl | (simp; done) | (simp [*]; done), by repeat (first | exact Drawn0.refl _ | apply Drawn0.step)⟩
  · rw [if_neg c2] at H
    have c2b0 : ((Int.tmod a0 4) == 0) = false := beq_eq_false_iff_ne.mpr c2
    have c2b1 : ((Int.tmod a0 4) != 0) = true := bne_iff_ne.mpr c2
    obtain rfl := Option.some.inj H
    go_enter Tryd.func13, Tryd.ntmps13
    go_wp2
    go_ret
    exact ⟨by first | rfl | (simp; done) | (simp [*]; done), by repeat (first | exact Drawn0.refl _ | apply Drawn0.step)⟩

/-! ### plenumref05_DaysIn: function 15 -/
def plenumref05_DaysIn.j0 : Nat → Int → Int → Int → Bool → Option (Int)
  | 0, _, _, _, _ => none
  | k + 1, x0, x1, x5, x6 => if x6 = true then (some 30) else (if x5 = 2 then ((plenumref05_Leap.f x0).bind fun t206 => (if t206 = true then (some 29) else (some 28))) else (if x1 < 1 then (some 0) else (if x1 > 12 then (some 0) else (some 31))))
def plenumref05_DaysIn.f (k : Nat) (a0 : Int) (a1 : Int) : Option (Int) := if a1 = 4 then (plenumref05_DaysIn.j0 k a0 a1 a1 (a1 == 4)) else (if a1 = 6 then (plenumref05_DaysIn.j0 k a0 a1 a1 (a1 == 6)) else (if a1 = 9 then (plenumref05_DaysIn.j0 k a0 a1 a1 (a1 == 9)) else (plenumref05_DaysIn.j0 k a0 a1 a1 (a1 == 11))))
theorem plenumref05_DaysIn.mono_l : ∀ k, (∀ y0 y1 y2 y3, LeO (plenumref05_DaysIn.j0 k y0 y1 y2 y3) (plenumref05_DaysIn.j0 (k + 1) y0 y1 y2 y3))
  | 0 => fun _ _ _ _ r h => by simp [plenumref05_DaysIn.j0] at h
  | k + 1 => by
    have ih0 := plenumref05_DaysIn.mono_l k
    · intro y0 y1 y2 y3
      unfold plenumref05_DaysIn.j0
      repeat' first
      | (with_reducible exact ih0 _ _ _ _)
      | (with_reducible exact LeO.refl _)
      | (with_reducible exact LeO.none _)
      | (with_reducible refine LeO.ite ?_ ?_)
      | (with_reducible refine LeO.bind ?_ (fun _ => ?_))
      | exact ih0 _ _ _ _
      | exact LeO.none _
      | refine LeO.ite ?_ ?_
      | refine LeO.bind ?_ (fun _ => ?_)
theorem plenumref05_DaysIn.mono : ∀ a0 a1 k, LeO (plenumref05_DaysIn.f k a0 a1) (plenumref05_DaysIn.f (k + 1) a0 a1) := by
  intro a0 a1 k
  have ih0 := plenumref05_DaysIn.mono_l k
  unfold plenumref05_DaysIn.f
  repeat' first
      | (with_reducible exact ih0 _ _ _ _)
      | (with_reducible exact LeO.refl _)
      | (with_reducible exact LeO.none _)
      | (with_reducible refine LeO.ite ?_ ?_)
      | (with_reducible refine LeO.bind ?_ (fun _ => ?_))
      | exact ih0 _ _ _ _
      | exact LeO.none _
      | refine LeO.ite ?_ ?_
      | refine LeO.bind ?_ (fun _ => ?_)
set_option maxHeartbeats 8000000 in
set_option maxRecDepth 100000 in
theorem plenumref05_DaysIn.calls (k : Nat) (a0 : Int) (a1 : Int) (r : Int) (w : World) (h : plenumref05_DaysIn.f k a0 a1 = some r) :
    Calls Tryd.prog 15 #[.int .i64 a0, .int .i64 a1] w fun e w' => e = .returned (.int .i64 r) ∧ Drawn0 w w' := by
  have H : (if a1 = 4 then (plenumref05_DaysIn.j0 k a0 a1 a1 (a1 == 4)) else (if a1 = 6 then (plenumref05_DaysIn.j0 k a0 a1 a1 (a1 == 6)) else (if a1 = 9 then (plenumref05_DaysIn.j0 k a0 a1 a1 (a1 == 9)) else (plenumref05_DaysIn.j0 k a0 a1 a1 (a1 == 11))))) = some r := h
  clear h
  have HC3 := Aside0.mk H
  clear H
  go_enter Tryd.func15, Tryd.ntmps15
  go_upto_if 6 with (fail)
  go_cut [6] (fun v6 wc => ∃ (kq : Nat) (x6_2 : Bool), v6 = .bool x6_2 ∧ Aside0 (plenumref05_DaysIn.j0 kq a0 a1 a1 x6_2 = some r) ∧ Aside0 (kq ≤ k) ∧ Drawn0 w wc)
  case first =>
    have H := HC3.out
    clear HC3
    by_cases c4 : a1 = 4
    · rw [if_pos c4] at H
      have c4b0 : (a1 == 4) = true := beq_iff_eq.mpr c4
      have c4b1 : (a1 != 4) = false := bne_eq_false_iff_eq.mpr c4
      clear c4
      (first | rw [c4b0] | (simp only [i64_w, i32_w]; rw [c4b0]) | skip)
      have H' := Aside0.mk H
      clear H
      go_wp2
      go_meet
      case rel => exact ⟨_, ((a1 == 4)), (by first | rfl | (simp; done) | (simp [*]; done)), H', ⟨by first | omega | exact Nat.le_refl _⟩, by repeat (first | exact Drawn0.refl _ | apply Drawn0.step)⟩
    · rw [if_neg c4] at H
      have c4b0 : (a1 == 4) = false := beq_eq_false_iff_ne.mpr c4
      have c4b1 : (a1 != 4) = true := bne_iff_ne.mpr c4
      (first | rw [c4b0] | (simp only [i64_w, i32_w]; rw [c4b0]) | skip)
      by_cases c5 : a1 = 6
      · rw [if_pos c5] at H
        have c5b0 : (a1 == 6) = true := beq_iff_eq.mpr c5
        have c5b1 : (a1 != 6) = false := bne_eq_false_iff_eq.mpr c5
        clear c5
        have H' := Aside0.mk H
        clear H
        go_wp2
        go_meet
        case rel => exact ⟨_, ((a1 == 6)), (by first | rfl | (simp; done) | (simp [*]; done)), H', ⟨by first | omega | exact Nat.le_refl _⟩, by repeat (first | exact Drawn0.refl _ | apply Drawn0.step)⟩
      · rw [if_neg c5] at H
        have c5b0 : (a1 == 6) = false := beq_eq_false_iff_ne.mpr c5
        have c5b1 : (a1 != 6) = true := bne_iff_ne.mpr c5
        by_cases c6 : a1 = 9
        · rw [if_pos c6] at H
          have c6b0 : (a1 == 9) = true := beq_iff_eq.mpr c6
          have c6b1 : (a1 != 9) = false := bne_eq_false_iff_eq.mpr c6
          clear c6
          have H' := Aside0.mk H
          clear H
          go_wp2
          go_meet
          case rel => exact ⟨_, ((a1 == 9)), (by first | rfl | (simp; done) | (simp [*]; done)), H', ⟨by first | omega | exact Nat.le_refl _⟩, by repeat (first | exact Drawn0.refl _ | apply Drawn0.step)⟩
        · rw [if_neg c6] at H
          have c6b0 : (a1 == 9) = false := beq_eq_false_iff_ne.mpr c6
          have c6b1 : (a1 != 9) = true := bne_iff_ne.mpr c6
          have H' := Aside0.mk H
          clear H
          go_wp2
          go_meet
          case rel => exact ⟨_, ((a1 == 11)), (by first | rfl | (simp; done) | (simp [*]; done)), H', ⟨by first | omega | exact Nat.le_refl _⟩, by repeat (first | exact Drawn0.refl _ | apply Drawn0.step)⟩
  case rest =>
    clear HC3
    try clear c1
    try clear p2
    try clear c4
    try clear c4b0
    try clear c4b1
    try clear c5
    try clear c5b0
    try clear c5b1
    try clear c6
    try clear c6b0
    try clear c6b1
    obtain ⟨kq, x6_2, rfl, HA, HJ2, ⟨mc2, rfl⟩⟩ := hcut
    cases kq with
    | zero => exact absurd HA.out (by simp [plenumref05_DaysIn.j0])
    | succ kj2 =>
      have H := HA.out
      clear HA
      simp only [plenumref05_DaysIn.j0] at H
      by_cases c7 : x6_2 = true
      · subst c7
        have H1 : (some 30) = some r := by rw [if_pos rfl] at H; exact H
        clear H
        have H := H1
        clear H1
        obtain rfl := Option.some.inj H
        go_wp2
        go_ret
        exact ⟨by first | rfl | (simp; done) | (simp [*]; done), by repeat (first | exact Drawn0.refl _ | apply Drawn0.step)⟩
      · replace c7 := Bool.eq_false_iff.mpr c7
        subst c7
        have H1 : (if a1 = 2 then ((plenumref05_Leap.f a0).bind fun t206 => (if t206 = true then (some 29) else (some 28))) else (if a1 < 1 then (some 0) else (if a1 > 12 then (some 0) else (some 31)))) = some r := by rw [if_neg (show ¬ (false = true) by decide)] at H; exact H
        clear H
        have H := H1
        clear H1
        by_cases c8 : a1 = 2
        · rw [if_pos c8] at H
          have c8b0 : (a1 == 2) = true := beq_iff_eq.mpr c8
          have c8b1 : (a1 != 2) = false := bne_eq_false_iff_eq.mpr c8
          clear c8
          replace H := Option.bind_eq_some_iff.mp H
          obtain ⟨t206, A90, H⟩ := H
          replace H : (if t206 = true then (some 29) else (some 28)) = some r := H
          have A9 := Aside0.mk A90
          clear A90
          by_cases c10 : t206 = true
          · subst c10
            have H1 : (some 29) = some r := by rw [if_pos rfl] at H; exact H
            clear H
            have H := H1
            clear H1
            obtain rfl := Option.some.inj H
            go_wp2_with (first | ((with_reducible refine gate_callee (f := 13) rfl ?_); refine goesL_ (some 14) rfl rfl Tryd.func13 (by kernel_rfl) rfl #[.int .i64 a0] rfl (by (try simp only [List.map_toArray, List.map_cons, List.map_nil]); first | done | rfl | (simp only [List.length_drop, List.length_take]; rfl)) ?_; (with_reducible refine (plenumref05_Leap.calls a0 true _ A9.out).mono ?_); rintro e w' ⟨rfl, ⟨nd, rfl⟩⟩; refine ⟨_, rfl, ?_⟩))
            go_ret
            exact ⟨by first | rfl | (simp; done) | (simp [*]; done), by repeat (first | exact Drawn0.refl _ | apply Drawn0.step)⟩
          · replace c10 := Bool.eq_false_iff.mpr c10
            subst c10
            have H1 : (some 28) = some r := by rw [if_neg (show ¬ (false = true) by decide)] at H; exact H
            clear H
            have H := H1
            clear H1
            obtain rfl := Option.some.inj H
            go_wp2_with (first | ((with_reducible refine gate_callee (f := 13) rfl ?_); refine goesL_ (some 14) rfl rfl Tryd.func13 (by kernel_rfl) rfl #[.int .i64 a0] rfl (by (try simp only [List.map_toArray, List.map_cons, List.map_nil]); first | done | rfl | (simp only [List.length_drop, List.length_take]; rfl)) ?_; (with_reducible refine (plenumref05_Leap.calls a0 false _ A9.out).mono ?_); rintro e w' ⟨rfl, ⟨nd, rfl⟩⟩; refine ⟨_, rfl, ?_⟩))
            go_ret
            exact ⟨by first | rfl | (simp; done) | (simp [*]; done), by repeat (first | exact Drawn0.refl _ | apply Drawn0.step)⟩
        · rw [if_neg c8] at H
          have c8b0 : (a1 == 2) = false := beq_eq_false_iff_ne.mpr c8
          have c8b1 : (a1 != 2) = true := bne_iff_ne.mpr c8
          by_cases c11 : a1 < 1
          · rw [if_pos c11] at H
            have c11b0 : decide (a1 < 1) = true := decide_eq_true c11
            clear c11
            obtain rfl := Option.some.inj H
            go_wp2
            go_ret
            exact ⟨by first | rfl | (simp; done) | (simp [*]; done), by repeat (first | exact Drawn0.refl _ | apply Drawn0.step)⟩
          · rw [if_neg c11] at H
            have c11b0 : decide (a1 < 1) = false := decide_eq_false c11
            clear c11
            by_cases c12 : a1 > 12
            · rw [if_pos c12] at H
              have c12b0 : decide (12 < a1) = true := decide_eq_true c12
              clear c12
              obtain rfl := Option.some.inj H
              go_wp2
              go_ret
              exact ⟨by first | rfl | (simp; done) | (simp [*]; done), by repeat (first | exact Drawn0.refl _ | apply Drawn0.step)⟩
            · rw [if_neg c12] at H
              have c12b0 : decide (12 < a1) = false := decide_eq_false c12
              clear c12
              obtain rfl := Option.some.inj H
              go_wp2
              go_ret
              exact ⟨by first | rfl | (simp; done) | (simp [*]; done), by repeat (first | exact Drawn0.refl _ | apply Drawn0.step)⟩

/-! ### plenumref05_Check: function 16 -/
def plenumref05_Check.j0 : Nat → Bool → Int → Int → Int → Option (Int)
  | 0, _, _, _, _ => none
  | k + 1, x10, x208000, x208001, x208002 => if x10 = true then (some 1) else (if x208002 < 1 then (some 6) else ((plenumref05_DaysIn.f k x208000 x208001).bind fun t208 => (if x208002 > t208 then (some 6) else (some 0))))
def plenumref05_Check.f (k : Nat) (a0_0 : Int) (a0_1 : Int) (a0_2 : Int) : Option (Int) := if a0_0 < 2000 then (plenumref05_Check.j0 k true a0_0 a0_1 a0_2) else (plenumref05_Check.j0 k (decide (a0_0 > 2199)) a0_0 a0_1 a0_2)
theorem plenumref05_Check.mono_l : ∀ k, (∀ y0 y1 y2 y3, LeO (plenumref05_Check.j0 k y0 y1 y2 y3) (plenumref05_Check.j0 (k + 1) y0 y1 y2 y3))
  | 0 => fun _ _ _ _ r h => by simp [plenumref05_Check.j0] at h
  | k + 1 => by
    have ih0 := plenumref05_Check.mono_l k
    · intro y0 y1 y2 y3
      unfold plenumref05_Check.j0
      repeat' first
      | (with_reducible exact ih0 _ _ _ _)
      | (with_reducible exact plenumref05_DaysIn.mono _ _ _)
      | (with_reducible exact LeO.refl _)
      | (with_reducible exact LeO.none _)
      | (with_reducible refine LeO.ite ?_ ?_)
      | (with_reducible refine LeO.bind ?_ (fun _ => ?_))
      | exact ih0 _ _ _ _
      | exact plenumref05_DaysIn.mono _ _ _
      | exact LeO.none _
      | refine LeO.ite ?_ ?_
      | refine LeO.bind ?_ (fun _ => ?_)
theorem plenumref05_Check.mono : ∀ a0 a1 a2 k, LeO (plenumref05_Check.f k a0 a1 a2) (plenumref05_Check.f (k + 1) a0 a1 a2) := by
  intro a0 a1 a2 k
  have ih0 := plenumref05_Check.mono_l k
  unfold plenumref05_Check.f
  repeat' first
      | (with_reducible exact ih0 _ _ _ _)
      | (with_reducible exact plenumref05_DaysIn.mono _ _ _)
      | (with_reducible exact LeO.refl _)
      | (with_reducible exact LeO.none _)
      | (with_reducible refine LeO.ite ?_ ?_)
      | (with_reducible refine LeO.bind ?_ (fun _ => ?_))
      | exact ih0 _ _ _ _
      | exact plenumref05_DaysIn.mono _ _ _
      | exact LeO.none _
      | refine LeO.ite ?_ ?_
      | refine LeO.bind ?_ (fun _ => ?_)
set_option maxHeartbeats 8000000 in
set_option maxRecDepth 100000 in
theorem plenumref05_Check.calls (k : Nat) (a0_0 : Int) (a0_1 : Int) (a0_2 : Int) (r : Int) (w : World) (h : plenumref05_Check.f k a0_0 a0_1 a0_2 = some r) :
    Calls Tryd.prog 16 #[.agg #[.int .i64 a0_0, .int .i64 a0_1, .int .i64 a0_2]] w fun e w' => e = .returned (.int .i64 r) ∧ Below w.heap.size w w' := by
  have hu23 := Tryd.underlying23
  have HB := Aside0.mk (Below.refl w.heap.size w)
  have H : (if a0_0 < 2000 then (plenumref05_Check.j0 k true a0_0 a0_1 a0_2) else (plenumref05_Check.j0 k (decide (a0_0 > 2199)) a0_0 a0_1 a0_2)) = some r := h
  clear h
  have HC2 := Aside0.mk H
  clear H
  go_enter Tryd.func16, Tryd.ntmps16
  go_upto_region 1 with (first | ((with_reducible refine gate_dst (N := 1) rfl ?_); refine box_event ?hg (N := 1) ?hd (cs := #[.int .i64 a0_0, .int .i64 a0_1, .int .i64 a0_2]) (t := 23) ?hr ?_; (case hd => rfl); (case hg => rfl); (case hr => first | (go_simp; done) | (go_simp; rfl)); intro gb207 hg w3 hbox hb; have n0_ := Aside0.mk (below_step (by repeat (first | (with_reducible first | exact HB.out | apply below_alloc | apply pw_below_drewN | apply below_drew1) | exact HB.out)) hb); have n1_ := Aside0.mk (hbox); have n2_ := Aside0.mk ((by rw [hg]; exact (below_size (by repeat (first | (with_reducible first | exact HB.out | apply below_alloc | apply pw_below_drewN | apply below_drew1) | exact HB.out))) : w.heap.size ≤ gb207)); have n3_ := Aside0.mk ((by rw [hg]; exact (below_size (by repeat (first | (with_reducible first | exact HB.out | apply below_alloc | apply pw_below_drewN | apply below_drew1) | exact HB.out))) : w.heap.size ≤ gb207)); clear HB; have HB := n0_; have BK207 := n1_; have GW207 := n2_; have GE207 := n3_; clear n0_ n1_ n2_ n3_; clear hb hbox hg))
  repeat (go_quiet (first | ((with_reducible refine gate_dst (N := 1) rfl ?_); refine box_event ?hg (N := 1) ?hd (cs := #[.int .i64 a0_0, .int .i64 a0_1, .int .i64 a0_2]) (t := 23) ?hr ?_; (case hd => rfl); (case hg => rfl); (case hr => first | (go_simp; done) | (go_simp; rfl)); intro gb207 hg w3 hbox hb; have n0_ := Aside0.mk (below_step (by repeat (first | (with_reducible first | exact HB.out | apply below_alloc | apply pw_below_drewN | apply below_drew1) | exact HB.out)) hb); have n1_ := Aside0.mk (hbox); have n2_ := Aside0.mk ((by rw [hg]; exact (below_size (by repeat (first | (with_reducible first | exact HB.out | apply below_alloc | apply pw_below_drewN | apply below_drew1) | exact HB.out))) : w.heap.size ≤ gb207)); have n3_ := Aside0.mk ((by rw [hg]; exact (below_size (by repeat (first | (with_reducible first | exact HB.out | apply below_alloc | apply pw_below_drewN | apply below_drew1) | exact HB.out))) : w.heap.size ≤ gb207)); clear HB; have HB := n0_; have BK207 := n1_; have GW207 := n2_; have GE207 := n3_; clear n0_ n1_ n2_ n3_; clear hb hbox hg)); go_upto_region 1 with (first | ((with_reducible refine gate_dst (N := 1) rfl ?_); refine box_event ?hg (N := 1) ?hd (cs := #[.int .i64 a0_0, .int .i64 a0_1, .int .i64 a0_2]) (t := 23) ?hr ?_; (case hd => rfl); (case hg => rfl); (case hr => first | (go_simp; done) | (go_simp; rfl)); intro gb207 hg w3 hbox hb; have n0_ := Aside0.mk (below_step (by repeat (first | (with_reducible first | exact HB.out | apply below_alloc | apply pw_below_drewN | apply below_drew1) | exact HB.out)) hb); have n1_ := Aside0.mk (hbox); have n2_ := Aside0.mk ((by rw [hg]; exact (below_size (by repeat (first | (with_reducible first | exact HB.out | apply below_alloc | apply pw_below_drewN | apply below_drew1) | exact HB.out))) : w.heap.size ≤ gb207)); have n3_ := Aside0.mk ((by rw [hg]; exact (below_size (by repeat (first | (with_reducible first | exact HB.out | apply below_alloc | apply pw_below_drewN | apply below_drew1) | exact HB.out))) : w.heap.size ≤ gb207)); clear HB; have HB := n0_; have BK207 := n1_; have GW207 := n2_; have GE207 := n3_; clear n0_ n1_ n2_ n3_; clear hb hbox hg)))
  (try simp only [Act.put, List.setIfInBounds_toArray, List.set_cons_zero, List.set_cons_succ])
  go_cut [10] (fun v10 wc => ∃ (kq : Nat) (x10_1 : Bool), v10 = .bool x10_1 ∧ Aside0 (plenumref05_Check.j0 kq x10_1 a0_0 a0_1 a0_2 = some r) ∧ Aside0 (kq ≤ k) ∧ Aside0 (wc.heap[gb207]? = some (.cells #[.int .i64 a0_0, .int .i64 a0_1, .int .i64 a0_2] 23 (0, 0))) ∧ Aside0 (Below w.heap.size w wc))
  case first =>
    have H := HC2.out
    clear HC2
    by_cases c4 : a0_0 < 2000
    · rw [if_pos c4] at H
      have c4b0 : decide (a0_0 < 2000) = true := decide_eq_true c4
      clear c4
      (first | rw [c4b0] | (simp only [i64_w, i32_w]; rw [c4b0]) | skip)
      have H' := Aside0.mk H
      clear H
      have hcz5_0 : w3.cell? ⟨gb207, 0, none⟩ = some (.int .i64 a0_0) := (blk_cell BK207.out 0).trans rfl
      have hcz5_1 : w3.cell? ⟨gb207, 1, none⟩ = some (.int .i64 a0_1) := (blk_cell BK207.out 1).trans rfl
      have hcz5_2 : w3.cell? ⟨gb207, 2, none⟩ = some (.int .i64 a0_2) := (blk_cell BK207.out 2).trans rfl
      have hfz5_0 := blk_frozen BK207.out 0
      have hfz5_1 := blk_frozen BK207.out 1
      have hfz5_2 := blk_frozen BK207.out 2
      go_wp2
      repeat (go_quiet (fail); try go_wp2)
      go_meet
      case rel => exact ⟨_, (true), (by first | rfl | (simp; done) | (simp [*]; done)), H', ⟨by first | omega | exact Nat.le_refl _⟩, ⟨by (with_reducible repeat (first | refine blk_drewN ?_ _ | refine blk_drew ?_ | refine blk_alloc ?_ _)); exact BK207.out⟩, ⟨by repeat (first | (with_reducible first | exact HB.out | apply below_alloc | apply pw_below_drewN | apply below_drew1 | refine below_set ?_ GE207.out) | exact HB.out)⟩⟩
    · rw [if_neg c4] at H
      have c4b0 : decide (a0_0 < 2000) = false := decide_eq_false c4
      clear c4
      (first | rw [c4b0] | (simp only [i64_w, i32_w]; rw [c4b0]) | skip)
      have H' := Aside0.mk H
      clear H
      have hcz6_0 : w3.cell? ⟨gb207, 0, none⟩ = some (.int .i64 a0_0) := (blk_cell BK207.out 0).trans rfl
      have hcz6_1 : w3.cell? ⟨gb207, 1, none⟩ = some (.int .i64 a0_1) := (blk_cell BK207.out 1).trans rfl
      have hcz6_2 : w3.cell? ⟨gb207, 2, none⟩ = some (.int .i64 a0_2) := (blk_cell BK207.out 2).trans rfl
      have hfz6_0 := blk_frozen BK207.out 0
      have hfz6_1 := blk_frozen BK207.out 1
      have hfz6_2 := blk_frozen BK207.out 2
      go_wp2
      repeat (go_quiet (fail); try go_wp2)
      go_meet
      case rel => exact ⟨_, (decide (a0_0 > 2199)), (by first | rfl | (simp; done) | (simp [*]; done)), H', ⟨by first | omega | exact Nat.le_refl _⟩, ⟨by (with_reducible repeat (first | refine blk_drewN ?_ _ | refine blk_drew ?_ | refine blk_alloc ?_ _)); exact BK207.out⟩, ⟨by repeat (first | (with_reducible first | exact HB.out | apply below_alloc | apply pw_below_drewN | apply below_drew1 | refine below_set ?_ GE207.out) | exact HB.out)⟩⟩
  case rest =>
    clear HC2
    try clear c1
    try clear p2
    try clear c4
    try clear c4b0
    try clear hcz5_0
    try clear hcz5_1
    try clear hcz5_2
    try clear hcz6_0
    try clear hcz6_1
    try clear hcz6_2
    try clear hfz5_0
    try clear hfz5_1
    try clear hfz5_2
    try clear hfz6_0
    try clear hfz6_1
    try clear hfz6_2
    obtain ⟨kq, x10_1, rfl, HA, HJ1, BK207, HB⟩ := hcut
    cases kq with
    | zero => exact absurd HA.out (by simp [plenumref05_Check.j0])
    | succ kj1 =>
      have H := HA.out
      clear HA
      simp only [plenumref05_Check.j0] at H
      by_cases c7 : x10_1 = true
      · subst c7
        have H1 : (some 1) = some r := by rw [if_pos rfl] at H; exact H
        clear H
        have H := H1
        clear H1
        obtain rfl := Option.some.inj H
        go_wp2
        repeat (go_quiet (fail); try go_wp2)
        go_ret
        exact ⟨by first | rfl | (simp [errW_none, errW_some] <;> rfl) | (simp [*, errW_none, errW_some] <;> rfl), by repeat (first | (with_reducible first | exact HB.out | apply below_alloc | apply pw_below_drewN | apply below_drew1 | refine below_set ?_ GE207.out) | exact HB.out)⟩
      · replace c7 := Bool.eq_false_iff.mpr c7
        subst c7
        have H1 : (if a0_2 < 1 then (some 6) else ((plenumref05_DaysIn.f kj1 a0_0 a0_1).bind fun t208 => (if a0_2 > t208 then (some 6) else (some 0)))) = some r := by rw [if_neg (show ¬ (false = true) by decide)] at H; exact H
        clear H
        have H := H1
        clear H1
        by_cases c8 : a0_2 < 1
        · rw [if_pos c8] at H
          have c8b0 : decide (a0_2 < 1) = true := decide_eq_true c8
          clear c8
          obtain rfl := Option.some.inj H
          have hcz9_0 : wc.cell? ⟨gb207, 0, none⟩ = some (.int .i64 a0_0) := (blk_cell BK207.out 0).trans rfl
          have hcz9_1 : wc.cell? ⟨gb207, 1, none⟩ = some (.int .i64 a0_1) := (blk_cell BK207.out 1).trans rfl
          have hcz9_2 : wc.cell? ⟨gb207, 2, none⟩ = some (.int .i64 a0_2) := (blk_cell BK207.out 2).trans rfl
          have hfz9_0 := blk_frozen BK207.out 0
          have hfz9_1 := blk_frozen BK207.out 1
          have hfz9_2 := blk_frozen BK207.out 2
          go_wp2
          repeat (go_quiet (fail); try go_wp2)
          go_ret
          exact ⟨by first | rfl | (simp [errW_none, errW_some] <;> rfl) | (simp [*, errW_none, errW_some] <;> rfl), by repeat (first | (with_reducible first | exact HB.out | apply below_alloc | apply pw_below_drewN | apply below_drew1 | refine below_set ?_ GE207.out) | exact HB.out)⟩
        · rw [if_neg c8] at H
          have c8b0 : decide (a0_2 < 1) = false := decide_eq_false c8
          clear c8
          replace H := Option.bind_eq_some_iff.mp H
          obtain ⟨t208, A100, H⟩ := H
          replace H : (if a0_2 > t208 then (some 6) else (some 0)) = some r := H
          have A10 := Aside0.mk A100
          clear A100
          by_cases c11 : a0_2 > t208
          · rw [if_pos c11] at H
            have c11b0 : decide (t208 < a0_2) = true := decide_eq_true c11
            clear c11
            obtain rfl := Option.some.inj H
            have hcz12_0 : wc.cell? ⟨gb207, 0, none⟩ = some (.int .i64 a0_0) := (blk_cell BK207.out 0).trans rfl
            have hcz12_1 : wc.cell? ⟨gb207, 1, none⟩ = some (.int .i64 a0_1) := (blk_cell BK207.out 1).trans rfl
            have hcz12_2 : wc.cell? ⟨gb207, 2, none⟩ = some (.int .i64 a0_2) := (blk_cell BK207.out 2).trans rfl
            have hfz12_0 := blk_frozen BK207.out 0
            have hfz12_1 := blk_frozen BK207.out 1
            have hfz12_2 := blk_frozen BK207.out 2
            go_wp2_with (first | (go_at_call 15; (with_reducible refine (plenumref05_DaysIn.calls kj1 a0_0 a0_1 t208 _ A10.out).mono ?_); rintro e w' ⟨rfl, ⟨nd, rfl⟩⟩; (try first | exact ⟨rfl, _, World.drewN_drewN _ _ _⟩ | exact ⟨rfl, _, Eq.trans (World.drewN_drewN _ _ _) (congrArg (World.drewN _) (Nat.add_assoc _ _ _))⟩)))
            repeat (go_quiet (first | (go_at_call 15; (with_reducible refine (plenumref05_DaysIn.calls kj1 a0_0 a0_1 t208 _ A10.out).mono ?_); rintro e w' ⟨rfl, ⟨nd, rfl⟩⟩; (try first | exact ⟨rfl, _, World.drewN_drewN _ _ _⟩ | exact ⟨rfl, _, Eq.trans (World.drewN_drewN _ _ _) (congrArg (World.drewN _) (Nat.add_assoc _ _ _))⟩))); try go_wp2_with (first | (go_at_call 15; (with_reducible refine (plenumref05_DaysIn.calls kj1 a0_0 a0_1 t208 _ A10.out).mono ?_); rintro e w' ⟨rfl, ⟨nd, rfl⟩⟩; (try first | exact ⟨rfl, _, World.drewN_drewN _ _ _⟩ | exact ⟨rfl, _, Eq.trans (World.drewN_drewN _ _ _) (congrArg (World.drewN _) (Nat.add_assoc _ _ _))⟩))))
            go_ret
            exact ⟨by first | rfl | (simp [errW_none, errW_some] <;> rfl) | (simp [*, errW_none, errW_some] <;> rfl), by repeat (first | (with_reducible first | exact HB.out | apply below_alloc | apply pw_below_drewN | apply below_drew1 | refine below_set ?_ GE207.out) | exact HB.out)⟩
          · rw [if_neg c11] at H
            have c11b0 : decide (t208 < a0_2) = false := decide_eq_false c11
            clear c11
            obtain rfl := Option.some.inj H
            have hcz13_0 : wc.cell? ⟨gb207, 0, none⟩ = some (.int .i64 a0_0) := (blk_cell BK207.out 0).trans rfl
            have hcz13_1 : wc.cell? ⟨gb207, 1, none⟩ = some (.int .i64 a0_1) := (blk_cell BK207.out 1).trans rfl
            have hcz13_2 : wc.cell? ⟨gb207, 2, none⟩ = some (.int .i64 a0_2) := (blk_cell BK207.out 2).trans rfl
            have hfz13_0 := blk_frozen BK207.out 0
            have hfz13_1 := blk_frozen BK207.out 1
            have hfz13_2 := blk_frozen BK207.out 2
            go_wp2_with (first | (go_at_call 15; (with_reducible refine (plenumref05_DaysIn.calls kj1 a0_0 a0_1 t208 _ A10.out).mono ?_); rintro e w' ⟨rfl, ⟨nd, rfl⟩⟩; (try first | exact ⟨rfl, _, World.drewN_drewN _ _ _⟩ | exact ⟨rfl, _, Eq.trans (World.drewN_drewN _ _ _) (congrArg (World.drewN _) (Nat.add_assoc _ _ _))⟩)))
            repeat (go_quiet (first | (go_at_call 15; (with_reducible refine (plenumref05_DaysIn.calls kj1 a0_0 a0_1 t208 _ A10.out).mono ?_); rintro e w' ⟨rfl, ⟨nd, rfl⟩⟩; (try first | exact ⟨rfl, _, World.drewN_drewN _ _ _⟩ | exact ⟨rfl, _, Eq.trans (World.drewN_drewN _ _ _) (congrArg (World.drewN _) (Nat.add_assoc _ _ _))⟩))); try go_wp2_with (first | (go_at_call 15; (with_reducible refine (plenumref05_DaysIn.calls kj1 a0_0 a0_1 t208 _ A10.out).mono ?_); rintro e w' ⟨rfl, ⟨nd, rfl⟩⟩; (try first | exact ⟨rfl, _, World.drewN_drewN _ _ _⟩ | exact ⟨rfl, _, Eq.trans (World.drewN_drewN _ _ _) (congrArg (World.drewN _) (Nat.add_assoc _ _ _))⟩))))
            go_ret
            exact ⟨by first | rfl | (simp [errW_none, errW_some] <;> rfl) | (simp [*, errW_none, errW_some] <;> rfl), by repeat (first | (with_reducible first | exact HB.out | apply below_alloc | apply pw_below_drewN | apply below_drew1 | refine below_set ?_ GE207.out) | exact HB.out)⟩

end Go.Proofs.YtipkgjbfannniaaDoor.Q
