-- Written by pp.py (a program of this session, over the kit's print.py) out of the translation. Not trusted: Lean checks it.
import Derived.Test.YteclemahimldeaaSx0
import Derived.Test.YteclemahimldeaaSx3
import Derived.Test.YteclemahimldeaaSx4
import Derived.Test.YteclemahimldeaaSx6
import Derived.Test.YteclemahimldeaaSx7
import Derived.Test.YteclemahimldeaaSx8
namespace Go.Proofs.Yteclemahimldeaa.S
open Go.RowKit Go.Proofs.YteclemahimldeaaW.PrintWords Go.Proofs.YteclemahimldeaaW.PrintLast Go.Proofs.YteclemahimldeaaW.PrintMore
attribute [local go_sem] max2_int min2_int max_two min_two max_three min_three max_four min_four   -- for this text's walks alone
attribute [local go_sem] pp_mod256 pp_mod256_w
set_option linter.unusedVariables false
set_option linter.unusedSimpArgs false

/-! ### plenumlaw42_CollectSound: function 4 -/
def plenumlaw42_CollectSound.l0 : Nat → List (List (S42)) → Int → List (S42) → Option (Bool)
 | 0, _, _, _ => none
 | k + 1, x0, x4, x189000 => if x4 < (x0.length : Int) then (if 0 ≤ x4 then ((collect_Collector_Take.f k x189000 (rd_L3 x0 x4)).bind fun bt190 => (if bt190.2.1 = 0 then ((collect_Collector_Records.f bt190.2.2).bind fun bt193 => ((collect_Collector_Take.f k bt193.2 (rd_L3 x0 x4)).bind fun bt198 => ((collect_Collector_Take.f k bt198.2.2 bt193.1).bind fun bt201 => (if bt198.2.1 = 0 then (if bt198.1 = 0 then (if bt201.2.1 = 0 then (if bt201.1 = 0 then ((collect_Collector_Records.f bt201.2.2).bind fun bt204 => ((plenumref42_Same.f k bt193.1 bt204.1).bind fun t208 => (if t208 = true then (plenumlaw42_CollectSound.l0 k x0 (wrap64 (x4 + 1)) bt204.2) else (some false)))) else (none)) else (none)) else (none)) else (none))))) else (plenumlaw42_CollectSound.l0 k x0 (wrap64 (x4 + 1)) bt190.2.2))) else (none)) else ((collect_Collector_Records.f x189000).bind fun bt209 => ((collect_Check.f k bt209.1).bind fun t213 => (if t213 = 0 then (if (bt209.1.length : Int) = 0 then ((collect_Collector_From.f bt209.2).bind fun bt214 => (if bt214.1 = 1 then (some true) else (if (bt209.1.length : Int) > 0 then (if 0 < (bt209.1.length : Int) then ((plenumref42_First.f ((rd_T42 bt209.1 0).f0) ((rd_T42 bt209.1 0).f1) ((rd_T42 bt209.1 0).f2.f0) ((rd_T42 bt209.1 0).f2.f1) ((rd_T42 bt209.1 0).f3) ((rd_T42 bt209.1 0).f4)).bind fun t217 => (if t217 = 1 then (if 0 ≤ (wrap64 ((bt209.1.length : Int) - 1)) then (if (wrap64 ((bt209.1.length : Int) - 1)) < (bt209.1.length : Int) then ((collect_Collector_From.f bt214.2).bind fun bt219 => (some ((wrap64 (((rd_T42 bt209.1 (wrap64 ((bt209.1.length : Int) - 1))).f0) + 1)) == bt219.1))) else (none)) else (none)) else (none))) else (none)) else (none)))) else (if (bt209.1.length : Int) > 0 then (if 0 < (bt209.1.length : Int) then ((plenumref42_First.f ((rd_T42 bt209.1 0).f0) ((rd_T42 bt209.1 0).f1) ((rd_T42 bt209.1 0).f2.f0) ((rd_T42 bt209.1 0).f2.f1) ((rd_T42 bt209.1 0).f3) ((rd_T42 bt209.1 0).f4)).bind fun t222 => (if t222 = 1 then (if 0 ≤ (wrap64 ((bt209.1.length : Int) - 1)) then (if (wrap64 ((bt209.1.length : Int) - 1)) < (bt209.1.length : Int) then ((collect_Collector_From.f bt209.2).bind fun bt224 => (some ((wrap64 (((rd_T42 bt209.1 (wrap64 ((bt209.1.length : Int) - 1))).f0) + 1)) == bt224.1))) else (none)) else (none)) else (none))) else (none)) else (none))) else (none))))
def plenumlaw42_CollectSound.f (k : Nat) (l0 : List (List (S42))) : Option (Bool) := (plenumlaw42_awake.f k).bind fun t185 => (if t185 = true then ((plenumlaw42_small.f k l0).bind fun t186 => (if t186 = true then ((collect_New.f).bind fun t187 => (plenumlaw42_CollectSound.l0 k l0 0 t187)) else (some true))) else (some false))
theorem plenumlaw42_CollectSound.mono_l : ∀ k, (∀ y0 y1 y2, LeO (plenumlaw42_CollectSound.l0 k y0 y1 y2) (plenumlaw42_CollectSound.l0 (k + 1) y0 y1 y2))
 | 0 => fun _ _ _ r h => by simp [plenumlaw42_CollectSound.l0] at h
 | k + 1 => by
  have ih0 := plenumlaw42_CollectSound.mono_l k
  ·intro y0 y1 y2
   unfold plenumlaw42_CollectSound.l0
   repeat' first
   | (with_reducible exact ih0 _ _ _)
   | (with_reducible exact collect_Check.mono _ _)
   | (with_reducible exact collect_Collector_Take.mono _ _ _)
   | (with_reducible exact plenumlaw42_awake.mono _)
   | (with_reducible exact plenumlaw42_small.mono _ _)
   | (with_reducible exact plenumref42_Same.mono _ _ _)
   | (with_reducible exact LeO.refl _)
   | (with_reducible exact LeO.none _)
   | (with_reducible refine LeO.ite ?_ ?_)
   | (with_reducible refine LeO.bind ?_ (fun _ => ?_))
   | exact ih0 _ _ _
   | exact collect_Check.mono _ _
   | exact collect_Collector_Take.mono _ _ _
   | exact plenumlaw42_awake.mono _
   | exact plenumlaw42_small.mono _ _
   | exact plenumref42_Same.mono _ _ _
   | exact LeO.none _
   | refine LeO.ite ?_ ?_
   | refine LeO.bind ?_ (fun _ => ?_)
theorem plenumlaw42_CollectSound.mono : ∀ a0 k, LeO (plenumlaw42_CollectSound.f k a0) (plenumlaw42_CollectSound.f (k + 1) a0) := by
 intro a0 k
 have ih0 := plenumlaw42_CollectSound.mono_l k
 unfold plenumlaw42_CollectSound.f
 repeat' first
   | (with_reducible exact ih0 _ _ _)
   | (with_reducible exact collect_Check.mono _ _)
   | (with_reducible exact collect_Collector_Take.mono _ _ _)
   | (with_reducible exact plenumlaw42_awake.mono _)
   | (with_reducible exact plenumlaw42_small.mono _ _)
   | (with_reducible exact plenumref42_Same.mono _ _ _)
   | (with_reducible exact LeO.refl _)
   | (with_reducible exact LeO.none _)
   | (with_reducible refine LeO.ite ?_ ?_)
   | (with_reducible refine LeO.bind ?_ (fun _ => ?_))
   | exact ih0 _ _ _
   | exact collect_Check.mono _ _
   | exact collect_Collector_Take.mono _ _ _
   | exact plenumlaw42_awake.mono _
   | exact plenumlaw42_small.mono _ _
   | exact plenumref42_Same.mono _ _ _
   | exact LeO.none _
   | refine LeO.ite ?_ ?_
   | refine LeO.bind ?_ (fun _ => ?_)
def plenumlaw42_CollectSound.T17 : Bool × List (List Nat × List Nat) := (true, [([], []), ([0], [0]), ([1], [1]), ([2, 1], [2]), ([3], [3]), ([4, 3], [3, 4]), ([5, 3], [3, 5]), ([6, 3, 3], [3, 6]), ([7], [7]), ([8, 7, 7], [7, 8]), ([9, 7], [7, 9]), ([7, 10, 3], [3, 7, 10]), ([11, 9, 3], [3, 11]), ([12], [12]), ([13, 12], [12, 13]), ([14, 12], [12, 14]), ([15, 12, 12], [12, 15]), ([16], [16]), ([17, 16], [16, 17]), ([18, 16], [16, 18]), ([19, 16, 16], [16, 19]), ([20, 16], [16, 20]), ([16, 21, 12], [12, 16, 21]), ([22, 20, 12], [12, 22]), ([23], [23]), ([23], [23]), ([25, 23], [23, 25]), ([26, 23], [23, 26]), ([24, 27, 23], [23, 24, 27]), ([28, 23], [23, 28]), ([29, 23], [23, 29]), ([30, 23], [23, 30]), ([23], [23]), ([32, 23, 23], [23, 32]), ([31, 33, 23], [23, 31, 33]), ([23, 34, 12], [12, 23, 34]), ([12, 35, 3], [3, 12, 35]), ([3, 36], [3, 36]), ([37, 33, 0, 1, 2, 3, 4, 5, 6, 7, 8, 9, 10, 11, 12, 13, 14, 15, 16, 17, 18, 19, 20, 21, 22, 23, 24, 25, 26, 27, 28, 29, 30, 31, 32, 33, 34, 35, 36, 37], [37])])
def plenumlaw42_CollectSound.B17 : List Nat := [0, 1, 3, 7, 15, 31, 63, 127, 255, 511, 1023, 2047, 4095, 8191, 16383, 32767, 65535, 131071, 262143, 524287, 1048575, 2097151, 4194303, 8388607, 16777215, 16777215, 50331647, 117440511, 268435455, 536870911, 1073741823, 2147483647, 16777215, 4311744511, 17179869183, 34359738367, 68719476735, 137438953471, 274877906943]
theorem plenumlaw42_CollectSound.tab17 : rtab .any (opsOf Try.f4 17) = plenumlaw42_CollectSound.T17 := by kernel_rfl
theorem plenumlaw42_CollectSound.bits17 : waitsOk plenumlaw42_CollectSound.T17.2 plenumlaw42_CollectSound.B17 = true := by kernel_rfl
set_option maxHeartbeats 8000000 in
set_option maxRecDepth 100000 in
theorem plenumlaw42_CollectSound.calls (k : Nat) (A0 : Option Addr) (c0 : Nat) (l0 : List (List (S42))) (r : Bool) (w : World) (hr0 : Kd.C (Kd.slice 42 k42) w A0 l0.length l0) (hc0 : l0.length ≤ c0) (h : plenumlaw42_CollectSound.f k l0 = some r) :
  Calls Try.prog 4 #[.slice A0 l0.length c0] w fun e w' => e = .returned (.bool r) ∧ Below w.heap.size w w' := by
 have hu42 := Try.underlying42
 have HR0 := Aside0.mk hr0
 have HC0 := Aside0.mk hc0
 clear hr0 hc0
 have HB := Aside0.mk (Below.refl w.heap.size w)
 have H : ((plenumlaw42_awake.f k).bind fun t185 => (if t185 = true then ((plenumlaw42_small.f k l0).bind fun t186 => (if t186 = true then ((collect_New.f).bind fun t187 => (plenumlaw42_CollectSound.l0 k l0 0 t187)) else (some true))) else (some false))) = some r := h
 clear h
 replace H := Option.bind_eq_some_iff.mp H
 obtain ⟨t185, A20, H⟩ := H
 replace H : (if t185 = true then ((plenumlaw42_small.f k l0).bind fun t186 => (if t186 = true then ((collect_New.f).bind fun t187 => (plenumlaw42_CollectSound.l0 k l0 0 t187)) else (some true))) else (some false)) = some r := H
 have A2 := Aside0.mk A20
 clear A20
 by_cases c3 : t185 = true
 ·subst c3
  have H1 : ((plenumlaw42_small.f k l0).bind fun t186 => (if t186 = true then ((collect_New.f).bind fun t187 => (plenumlaw42_CollectSound.l0 k l0 0 t187)) else (some true))) = some r := by rw [if_pos rfl] at H; exact H
  clear H
  have H := H1
  clear H1
  replace H := Option.bind_eq_some_iff.mp H
  obtain ⟨t186, A40, H⟩ := H
  replace H : (if t186 = true then ((collect_New.f).bind fun t187 => (plenumlaw42_CollectSound.l0 k l0 0 t187)) else (some true)) = some r := H
  have A4 := Aside0.mk A40
  clear A40
  by_cases c5 : t186 = true
  ·subst c5
   have H1 : ((collect_New.f).bind fun t187 => (plenumlaw42_CollectSound.l0 k l0 0 t187)) = some r := by rw [if_pos rfl] at H; exact H
   clear H
   have H := H1
   clear H1
   replace H := Option.bind_eq_some_iff.mp H
   obtain ⟨t187, A60, H⟩ := H
   replace H : (plenumlaw42_CollectSound.l0 k l0 0 t187) = some r := H
   have A6 := Aside0.mk A60
   clear A60
   have H' := Aside0.mk H
   clear H
   go_enter Try.func4, Try.ntmps4
   go_wp2_with (first | ((with_reducible refine gate_callee (f := 10) rfl ?_); refine goesL_ (some 13) rfl rfl Try.func10 (by kernel_rfl) rfl #[] rfl (by (try simp only [List.map_toArray, List.map_cons, List.map_nil]); first | done | rfl | (simp only [List.length_drop, List.length_take]; rfl)) ?_; (with_reducible refine (plenumlaw42_awake.calls k  true _ A2.out).mono ?_); rintro e w7 ⟨rfl, hb⟩; refine ⟨_, rfl, ?_⟩; have n0_ := Aside0.mk (below_step (by repeat (first | (with_reducible first | exact HB.out | apply below_alloc | apply pw_below_drewN | apply below_drew1) | exact HB.out)) hb); clear HB; have HB := n0_; clear n0_; (try clear hb); (try clear hb2); (try clear hk); (try clear hi)) | ((with_reducible refine gate_callee (f := 11) rfl ?_); refine goesL_ (some 16) rfl rfl Try.func11 (by kernel_rfl) rfl #[.slice A0 l0.length c0] rfl (by (try simp only [List.map_toArray, List.map_cons, List.map_nil]); first | done | rfl | (simp only [List.length_drop, List.length_take]; rfl)) ?_; (with_reducible refine (plenumlaw42_small.calls k _ _ l0 true _ ?side1 ?side2 A4.out).mono ?_); (case side1 => repeat (first | exact (Kd.C_below HR0.out HB.out) | (with_reducible refine Kd.C_alloc ?_ _) | (with_reducible refine Kd.C_drewN ?_ _) | (with_reducible refine Kd.C_drew ?_))); (case side2 => exact HC0.out); rintro e w' ⟨rfl, ⟨nd, rfl⟩⟩; refine ⟨_, rfl, ?_⟩) | ((with_reducible refine gate_callee (f := 12) rfl ?_); refine goesL_ (some 18) rfl rfl Try.func12 (by kernel_rfl) rfl #[] rfl (by (try simp only [List.map_toArray, List.map_cons, List.map_nil]); first | done | rfl | (simp only [List.length_drop, List.length_take]; rfl)) ?_; (with_reducible refine (collect_New.calls  t187 w _ ?side1 A6.out).mono ?_); (case side1 => repeat (first | (with_reducible first | exact HB.out | apply below_alloc | apply pw_below_drewN | apply below_drew1) | exact HB.out)); rintro e w8 ⟨g188, rfl, hi, hb, hb2⟩; refine ⟨_, rfl, ?_⟩; have n0_ := Aside0.mk (hb); have n1_ := Aside0.mk (hi); clear HB; have HB := n0_; have HI188 := n1_; clear n0_ n1_; (try clear hb); (try clear hb2); (try clear hk); (try clear hi)))
   go_loopg [4] k (fun kq v4 w' => ∃ (x4_1 : Int) (x189000_1 : List (S42)), v4 = .int .i64 x4_1 ∧ Aside0 (plenumlaw42_CollectSound.l0 kq l0 x4_1 x189000_1 = some r) ∧ Aside0 (kq ≤ k) ∧ Aside0 (IsS58 w w' g188 x189000_1) ∧ Aside0 (Below w.heap.size w w'))
   case atStart => exact ⟨(0), (t187), (by first | rfl | (simp; done) | (simp [*]; done)), H', ⟨Nat.le_refl _⟩, ⟨by repeat (first | (with_reducible first | exact HI188.out | apply IsS58.alloc | apply IsS58.drewN | apply IsS58.drew | apply IsS58.set_0) | exact HI188.out)⟩, ⟨by repeat (first | (with_reducible first | exact HB.out | apply below_alloc | apply pw_below_drewN | apply below_drew1 | refine below_set ?_ (IsS58.ge HI188.out)) | exact HB.out)⟩⟩
   case round =>
    clear H'
    try clear c1
    try clear p2
    try clear c3
    try clear c4
    try clear c5
    obtain ⟨x4_1, x189000_1, rfl, HA, HK1, HI188, HB⟩ := hrel
    cases gk with
    | zero => exact absurd HA.out (by simp [plenumlaw42_CollectSound.l0])
    | succ k1 =>
     have H := HA.out
     clear HA
     simp only [plenumlaw42_CollectSound.l0] at H
     by_cases c9 : x4_1 < (l0.length : Int)
     ·rw [if_pos c9] at H
      have c9b0 : decide (x4_1 < (l0.length : Int)) = true := decide_eq_true c9
      clear c9
      by_cases c10 : 0 ≤ x4_1
      ·rw [if_pos c10] at H
       have c10b0 : decide (0 ≤ x4_1) = true := decide_eq_true c10
       clear c10
       replace H := Option.bind_eq_some_iff.mp H
       obtain ⟨⟨t190, t191, t192⟩, A110, H⟩ := H
       replace H : (if t191 = 0 then ((collect_Collector_Records.f t192).bind fun bt193 => ((collect_Collector_Take.f k1 bt193.2 (rd_L3 l0 x4_1)).bind fun bt198 => ((collect_Collector_Take.f k1 bt198.2.2 bt193.1).bind fun bt201 => (if bt198.2.1 = 0 then (if bt198.1 = 0 then (if bt201.2.1 = 0 then (if bt201.1 = 0 then ((collect_Collector_Records.f bt201.2.2).bind fun bt204 => ((plenumref42_Same.f k1 bt193.1 bt204.1).bind fun t208 => (if t208 = true then (plenumlaw42_CollectSound.l0 k1 l0 (wrap64 (x4_1 + 1)) bt204.2) else (some false)))) else (none)) else (none)) else (none)) else (none))))) else (plenumlaw42_CollectSound.l0 k1 l0 (wrap64 (x4_1 + 1)) t192)) = some r := H
       have A11 := Aside0.mk A110
       clear A110
       by_cases c12 : t191 = 0
       ·rw [if_pos c12] at H
        have c12b0 : (t191 == 0) = true := beq_iff_eq.mpr c12
        have c12b1 : (t191 != 0) = false := bne_eq_false_iff_eq.mpr c12
        clear c12
        replace H := Option.bind_eq_some_iff.mp H
        obtain ⟨⟨t193, t196⟩, A130, H⟩ := H
        replace H : ((collect_Collector_Take.f k1 t196 (rd_L3 l0 x4_1)).bind fun bt198 => ((collect_Collector_Take.f k1 bt198.2.2 t193).bind fun bt201 => (if bt198.2.1 = 0 then (if bt198.1 = 0 then (if bt201.2.1 = 0 then (if bt201.1 = 0 then ((collect_Collector_Records.f bt201.2.2).bind fun bt204 => ((plenumref42_Same.f k1 t193 bt204.1).bind fun t208 => (if t208 = true then (plenumlaw42_CollectSound.l0 k1 l0 (wrap64 (x4_1 + 1)) bt204.2) else (some false)))) else (none)) else (none)) else (none)) else (none)))) = some r := H
        have A13 := Aside0.mk A130
        clear A130
        replace H := Option.bind_eq_some_iff.mp H
        obtain ⟨⟨t198, t199, t200⟩, A140, H⟩ := H
        replace H : ((collect_Collector_Take.f k1 t200 t193).bind fun bt201 => (if t199 = 0 then (if t198 = 0 then (if bt201.2.1 = 0 then (if bt201.1 = 0 then ((collect_Collector_Records.f bt201.2.2).bind fun bt204 => ((plenumref42_Same.f k1 t193 bt204.1).bind fun t208 => (if t208 = true then (plenumlaw42_CollectSound.l0 k1 l0 (wrap64 (x4_1 + 1)) bt204.2) else (some false)))) else (none)) else (none)) else (none)) else (none))) = some r := H
        have A14 := Aside0.mk A140
        clear A140
        replace H := Option.bind_eq_some_iff.mp H
        obtain ⟨⟨t201, t202, t203⟩, A150, H⟩ := H
        replace H : (if t199 = 0 then (if t198 = 0 then (if t202 = 0 then (if t201 = 0 then ((collect_Collector_Records.f t203).bind fun bt204 => ((plenumref42_Same.f k1 t193 bt204.1).bind fun t208 => (if t208 = true then (plenumlaw42_CollectSound.l0 k1 l0 (wrap64 (x4_1 + 1)) bt204.2) else (some false)))) else (none)) else (none)) else (none)) else (none)) = some r := H
        have A15 := Aside0.mk A150
        clear A150
        by_cases c16 : t199 = 0
        ·rw [if_pos c16] at H
         have c16b0 : (t199 == 0) = true := beq_iff_eq.mpr c16
         have c16b1 : (t199 != 0) = false := bne_eq_false_iff_eq.mpr c16
         clear c16
         by_cases c17 : t198 = 0
         ·rw [if_pos c17] at H
          have c17b0 : (t198 == 0) = true := beq_iff_eq.mpr c17
          have c17b1 : (t198 != 0) = false := bne_eq_false_iff_eq.mpr c17
          clear c17
          by_cases c18 : t202 = 0
          ·rw [if_pos c18] at H
           have c18b0 : (t202 == 0) = true := beq_iff_eq.mpr c18
           have c18b1 : (t202 != 0) = false := bne_eq_false_iff_eq.mpr c18
           clear c18
           by_cases c19 : t201 = 0
           ·rw [if_pos c19] at H
            have c19b0 : (t201 == 0) = true := beq_iff_eq.mpr c19
            have c19b1 : (t201 != 0) = false := bne_eq_false_iff_eq.mpr c19
            clear c19
            replace H := Option.bind_eq_some_iff.mp H
            obtain ⟨⟨t204, t207⟩, A200, H⟩ := H
            replace H : ((plenumref42_Same.f k1 t193 t204).bind fun t208 => (if t208 = true then (plenumlaw42_CollectSound.l0 k1 l0 (wrap64 (x4_1 + 1)) t207) else (some false))) = some r := H
            have A20 := Aside0.mk A200
            clear A200
            replace H := Option.bind_eq_some_iff.mp H
            obtain ⟨t208, A210, H⟩ := H
            replace H : (if t208 = true then (plenumlaw42_CollectSound.l0 k1 l0 (wrap64 (x4_1 + 1)) t207) else (some false)) = some r := H
            have A21 := Aside0.mk A210
            clear A210
            by_cases c22 : t208 = true
            ·subst c22
             have H1 : (plenumlaw42_CollectSound.l0 k1 l0 (wrap64 (x4_1 + 1)) t207) = some r := by rw [if_pos rfl] at H; exact H
             clear H
             have H := H1
             clear H1
             have H' := Aside0.mk H
             clear H
             have p189 : 0 ≤ (x4_1 : Int) := of_decide_eq_true (by first | (with_reducible assumption) | assumption)
             have q189 : x4_1 < (l0.length : Int) := of_decide_eq_true (by first | (with_reducible assumption) | assumption)
             obtain ⟨ad189, A189_0, c189_0, e189, hx189_0, hl189_0, hi189_0⟩ := at_L3 HR0.out x4_1 p189 q189
             cases e189
             replace hx189_0 := (HB.out.cell (World.block_lt_of_cell? w _ hx189_0)).trans hx189_0
             have HR189_0 := Aside0.mk hi189_0
             have HC189_0 := Aside0.mk hl189_0
             clear hi189_0 hl189_0
             replace p189 := eq_true p189
             replace q189 := eq_true q189
             go_wp2_with (first | ((with_reducible refine gate_callee (f := 13) rfl ?_); refine goesL_ (some 31) rfl rfl Try.func13 (by kernel_rfl) rfl #[.pointer (some ⟨g188, 0, none⟩), .slice A189_0 (rd_L3 l0 x4_1).length c189_0] rfl (by (try simp only [List.map_toArray, List.map_cons, List.map_nil]); first | done | rfl | (simp only [List.length_drop, List.length_take]; rfl)) ?_; (with_reducible refine (collect_Collector_Take.calls k1 g188 x189000_1 _ _ (rd_L3 l0 x4_1) t190 t191 t192 w _ ?side1 ?side2 ?side3 ?side4 A11.out).mono ?_); (case side1 => repeat (first | (with_reducible first | exact HI188.out | apply IsS58.alloc | apply IsS58.drewN | apply IsS58.drew | apply IsS58.set_0) | exact HI188.out)); (case side2 => repeat (first | (with_reducible first | exact HB.out | apply below_alloc | apply pw_below_drewN | apply below_drew1 | refine below_set ?_ (IsS58.ge HI188.out)) | exact HB.out)); (case side3 => exact Kd.C_foot_came k42_heap HR189_0.out (by repeat (first | (with_reducible first | exact HB.out | apply below_alloc | apply pw_below_drewN | apply below_drew1 | refine below_set ?_ (IsS58.ge HI188.out)) | exact HB.out)) (IsS58.ge HI188.out)); (case side4 => exact HC189_0.out); rintro e w23 ⟨rfl, hi, hb, hk⟩; refine ⟨_, rfl, ?_⟩; have n0_ := Aside0.mk (hb); have n1_ := Aside0.mk (hi); clear HB; clear HI188; have HB := n0_; have HI188 := n1_; clear n0_ n1_; (try clear hb); (try clear hb2); (try clear hk); (try clear hi)) | ((with_reducible refine gate_callee (f := 20) rfl ?_); refine goesL_ (some 37) rfl rfl Try.func20 (by kernel_rfl) rfl #[.pointer (some ⟨g188, 0, none⟩)] rfl (by (try simp only [List.map_toArray, List.map_cons, List.map_nil]); first | done | rfl | (simp only [List.length_drop, List.length_take]; rfl)) ?_; (with_reducible refine (collect_Collector_Records.calls g188 t192 t193 t196 w _ ?side1 ?side2 A13.out).mono ?_); (case side1 => repeat (first | (with_reducible first | exact HI188.out | apply IsS58.alloc | apply IsS58.drewN | apply IsS58.drew | apply IsS58.set_0) | exact HI188.out)); (case side2 => repeat (first | (with_reducible first | exact HB.out | apply below_alloc | apply pw_below_drewN | apply below_drew1 | refine below_set ?_ (IsS58.ge HI188.out)) | exact HB.out)); rintro e w24 ⟨v194, rfl, ho0, hi, hb, hk⟩; refine ⟨_, rfl, ?_⟩; have n0_ := Aside0.mk (Kd.R_lower ho0 (below_size (by repeat (first | (with_reducible first | exact HB.out | apply below_alloc | apply pw_below_drewN | apply below_drew1 | refine below_set ?_ (IsS58.ge HI188.out)) | exact HB.out)))); have n1_ := Aside0.mk (hb); have n2_ := Aside0.mk (hi); clear HB; clear HI188; have HO195 := n0_; have HB := n1_; have HI188 := n2_; clear n0_ n1_ n2_; (try clear hb); (try clear hb2); (try clear hk); (try clear hi); (try clear ho0); have p197 : 0 ≤ (x4_1 : Int) := of_decide_eq_true (by first | (with_reducible assumption) | assumption); have q197 : x4_1 < (l0.length : Int) := of_decide_eq_true (by first | (with_reducible assumption) | assumption); obtain ⟨ad197, A197_0, c197_0, e197, hx197_0, hl197_0, hi197_0⟩ := at_L3 HR0.out x4_1 p197 q197; obtain rfl : ad189 = ad197 := (by injection e197); replace hx197_0 := (HB.out.cell (World.block_lt_of_cell? w _ hx197_0)).trans hx197_0; have HR197_0 := Aside0.mk hi197_0; have HC197_0 := Aside0.mk hl197_0; clear hi197_0 hl197_0; replace p197 := eq_true p197; replace q197 := eq_true q197) | ((with_reducible refine gate_callee (f := 13) rfl ?_); refine goesL_ (some 44) rfl rfl Try.func13 (by kernel_rfl) rfl #[.pointer (some ⟨g188, 0, none⟩), .slice A197_0 (rd_L3 l0 x4_1).length c197_0] rfl (by (try simp only [List.map_toArray, List.map_cons, List.map_nil]); first | done | rfl | (simp only [List.length_drop, List.length_take]; rfl)) ?_; (with_reducible refine (collect_Collector_Take.calls k1 g188 t196 _ _ (rd_L3 l0 x4_1) t198 t199 t200 w _ ?side1 ?side2 ?side3 ?side4 A14.out).mono ?_); (case side1 => repeat (first | (with_reducible first | exact HI188.out | apply IsS58.alloc | apply IsS58.drewN | apply IsS58.drew | apply IsS58.set_0) | exact HI188.out)); (case side2 => repeat (first | (with_reducible first | exact HB.out | apply below_alloc | apply pw_below_drewN | apply below_drew1 | refine below_set ?_ (IsS58.ge HI188.out)) | exact HB.out)); (case side3 => exact Kd.C_foot_came k42_heap HR197_0.out (by repeat (first | (with_reducible first | exact HB.out | apply below_alloc | apply pw_below_drewN | apply below_drew1 | refine below_set ?_ (IsS58.ge HI188.out)) | exact HB.out)) (IsS58.ge HI188.out)); (case side4 => exact HC197_0.out); rintro e w25 ⟨rfl, hi, hb, hk⟩; refine ⟨_, rfl, ?_⟩; have n0_ := Aside0.mk (Kd.R_mono (Kd.R_keep (IsS58.apart (show IsS58 w _ g188 t196 from by repeat (first | (with_reducible first | exact HI188.out | apply IsS58.alloc | apply IsS58.drewN | apply IsS58.drew | apply IsS58.set_0) | exact HI188.out)) (by (with_reducible repeat (first | apply Kd.R_alloc | apply Kd.R_drewN | apply Kd.R_drew)); exact HO195.out) (by decide)) hk (fun _ h => h.2)) (fun _ h => h.1)); have n1_ := Aside0.mk (hb); have n2_ := Aside0.mk (hi); clear HO195; clear HB; clear HI188; have HO195 := n0_; have HB := n1_; have HI188 := n2_; clear n0_ n1_ n2_; (try clear hb); (try clear hb2); (try clear hk); (try clear hi); obtain ⟨Ao26, co26, eo26⟩ := Kd.R_slice HO195.out; subst eo26) | ((with_reducible refine gate_callee (f := 13) rfl ?_); refine goesL_ (some 50) rfl rfl Try.func13 (by kernel_rfl) rfl #[.pointer (some ⟨g188, 0, none⟩), .slice Ao26 t193.length co26] rfl (by (try simp only [List.map_toArray, List.map_cons, List.map_nil]); first | done | rfl | (simp only [List.length_drop, List.length_take]; rfl)) ?_; (with_reducible refine (collect_Collector_Take.calls k1 g188 t200 _ _ t193 t201 t202 t203 w _ ?side1 ?side2 ?side3 ?side4 A15.out).mono ?_); (case side1 => repeat (first | (with_reducible first | exact HI188.out | apply IsS58.alloc | apply IsS58.drewN | apply IsS58.drew | apply IsS58.set_0) | exact HI188.out)); (case side2 => repeat (first | (with_reducible first | exact HB.out | apply below_alloc | apply pw_below_drewN | apply below_drew1 | refine below_set ?_ (IsS58.ge HI188.out)) | exact HB.out)); (case side3 => exact Kd.C_foot_own (IsS58.apart (show IsS58 w _ g188 t200 from by repeat (first | (with_reducible first | exact HI188.out | apply IsS58.alloc | apply IsS58.drewN | apply IsS58.drew | apply IsS58.set_0) | exact HI188.out)) (by (with_reducible repeat (first | apply Kd.R_alloc | apply Kd.R_drewN | apply Kd.R_drew)); exact HO195.out) (by decide)) (fun _ h_ => h_.2)); (case side4 => exact (Kd.R_reads' HO195.out).2.1); rintro e w27 ⟨rfl, hi, hb, hk⟩; refine ⟨_, rfl, ?_⟩; have n0_ := Aside0.mk (Kd.R_mono (Kd.R_keep (IsS58.apart (show IsS58 w _ g188 t200 from by repeat (first | (with_reducible first | exact HI188.out | apply IsS58.alloc | apply IsS58.drewN | apply IsS58.drew | apply IsS58.set_0) | exact HI188.out)) (by (with_reducible repeat (first | apply Kd.R_alloc | apply Kd.R_drewN | apply Kd.R_drew)); exact HO195.out) (by decide)) hk (fun _ h => h.2)) (fun _ h => h.1)); have n1_ := Aside0.mk (hb); have n2_ := Aside0.mk (hi); clear HO195; clear HB; clear HI188; have HO195 := n0_; have HB := n1_; have HI188 := n2_; clear n0_ n1_ n2_; (try clear hb); (try clear hb2); (try clear hk); (try clear hi)) | (go_at_call 20; (with_reducible refine (collect_Collector_Records.calls g188 t203 t204 t207 w _ ?side1 ?side2 A20.out).mono ?_); (case side1 => repeat (first | (with_reducible first | exact HI188.out | apply IsS58.alloc | apply IsS58.drewN | apply IsS58.drew | apply IsS58.set_0) | exact HI188.out)); (case side2 => repeat (first | (with_reducible first | exact HB.out | apply below_alloc | apply pw_below_drewN | apply below_drew1 | refine below_set ?_ (IsS58.ge HI188.out)) | exact HB.out)); rintro e w28 ⟨v205, rfl, ho0, hi, hb, hk⟩; have n0_ := Aside0.mk (Kd.R_mono (Kd.R_told (Kd.R_oldK (IsS58.apart (show IsS58 w _ g188 t203 from by repeat (first | (with_reducible first | exact HI188.out | apply IsS58.alloc | apply IsS58.drewN | apply IsS58.drew | apply IsS58.set_0) | exact HI188.out)) (by (with_reducible repeat (first | apply Kd.R_alloc | apply Kd.R_drewN | apply Kd.R_drew)); exact HO195.out) (by decide)) hk) (Kd.R_base ho0)) (fun _ h_ => h_.1)); have n1_ := Aside0.mk (Kd.R_lower (Kd.R_new' ho0 (Kd.R_lt (by (with_reducible repeat (first | apply Kd.R_alloc | apply Kd.R_drewN | apply Kd.R_drew)); exact HO195.out))) (below_size (by repeat (first | (with_reducible first | exact HB.out | apply below_alloc | apply pw_below_drewN | apply below_drew1 | refine below_set ?_ (IsS58.ge HI188.out)) | exact HB.out)))); have n2_ := Aside0.mk (hb); have n3_ := Aside0.mk (hi); clear HO195; clear HB; clear HI188; have HO195 := n0_; have HO206 := n1_; have HB := n2_; have HI188 := n3_; clear n0_ n1_ n2_ n3_; (try clear hb); (try clear hb2); (try clear hk); (try clear hi); (try clear ho0); obtain ⟨Ao29, co29, eo29⟩ := Kd.R_slice HO206.out; subst eo29) | (go_at_call 19; (with_reducible refine (plenumref42_Same.calls k1 _ _ t193 _ _ t204 true _ ?side1 ?side2 ?side3 ?side4 A21.out).mono ?_); (case side1 => repeat (first | exact (Kd.R_reads' HO195.out).2.2 | (with_reducible refine Kd.C_alloc ?_ _) | (with_reducible refine Kd.C_drewN ?_ _) | (with_reducible refine Kd.C_drew ?_))); (case side2 => exact (Kd.R_reads' HO195.out).2.1); (case side3 => repeat (first | exact (Kd.R_reads' HO206.out).2.2 | (with_reducible refine Kd.C_alloc ?_ _) | (with_reducible refine Kd.C_drewN ?_ _) | (with_reducible refine Kd.C_drew ?_))); (case side4 => exact (Kd.R_reads' HO206.out).2.1); rintro e w' ⟨rfl, ⟨nd, rfl⟩⟩))
             go_roundg k1
             case measure => have := HK1.out; omega
             case rel => exact ⟨(wrap64 (x4_1 + 1)), (t207), (by first | rfl | (simp; done) | (simp [*]; done)), H', ⟨by have := HK1.out; omega⟩, ⟨by repeat (first | (with_reducible first | exact HI188.out | apply IsS58.alloc | apply IsS58.drewN | apply IsS58.drew | apply IsS58.set_0) | exact HI188.out)⟩, ⟨by repeat (first | (with_reducible first | exact HB.out | apply below_alloc | apply pw_below_drewN | apply below_drew1 | refine below_set ?_ (IsS58.ge HI188.out)) | exact HB.out)⟩⟩
            ·replace c22 := Bool.eq_false_iff.mpr c22
             subst c22
             have H1 : (some false) = some r := by rw [if_neg (show ¬ (false = true) by decide)] at H; exact H
             clear H
             have H := H1
             clear H1
             obtain rfl := Option.some.inj H
             have p189 : 0 ≤ (x4_1 : Int) := of_decide_eq_true (by first | (with_reducible assumption) | assumption)
             have q189 : x4_1 < (l0.length : Int) := of_decide_eq_true (by first | (with_reducible assumption) | assumption)
             obtain ⟨ad189, A189_0, c189_0, e189, hx189_0, hl189_0, hi189_0⟩ := at_L3 HR0.out x4_1 p189 q189
             cases e189
             replace hx189_0 := (HB.out.cell (World.block_lt_of_cell? w _ hx189_0)).trans hx189_0
             have HR189_0 := Aside0.mk hi189_0
             have HC189_0 := Aside0.mk hl189_0
             clear hi189_0 hl189_0
             replace p189 := eq_true p189
             replace q189 := eq_true q189
             go_wp2_with (first | ((with_reducible refine gate_callee (f := 13) rfl ?_); refine goesL_ (some 31) rfl rfl Try.func13 (by kernel_rfl) rfl #[.pointer (some ⟨g188, 0, none⟩), .slice A189_0 (rd_L3 l0 x4_1).length c189_0] rfl (by (try simp only [List.map_toArray, List.map_cons, List.map_nil]); first | done | rfl | (simp only [List.length_drop, List.length_take]; rfl)) ?_; (with_reducible refine (collect_Collector_Take.calls k1 g188 x189000_1 _ _ (rd_L3 l0 x4_1) t190 t191 t192 w _ ?side1 ?side2 ?side3 ?side4 A11.out).mono ?_); (case side1 => repeat (first | (with_reducible first | exact HI188.out | apply IsS58.alloc | apply IsS58.drewN | apply IsS58.drew | apply IsS58.set_0) | exact HI188.out)); (case side2 => repeat (first | (with_reducible first | exact HB.out | apply below_alloc | apply pw_below_drewN | apply below_drew1 | refine below_set ?_ (IsS58.ge HI188.out)) | exact HB.out)); (case side3 => exact Kd.C_foot_came k42_heap HR189_0.out (by repeat (first | (with_reducible first | exact HB.out | apply below_alloc | apply pw_below_drewN | apply below_drew1 | refine below_set ?_ (IsS58.ge HI188.out)) | exact HB.out)) (IsS58.ge HI188.out)); (case side4 => exact HC189_0.out); rintro e w30 ⟨rfl, hi, hb, hk⟩; refine ⟨_, rfl, ?_⟩; have n0_ := Aside0.mk (hb); have n1_ := Aside0.mk (hi); clear HB; clear HI188; have HB := n0_; have HI188 := n1_; clear n0_ n1_; (try clear hb); (try clear hb2); (try clear hk); (try clear hi)) | ((with_reducible refine gate_callee (f := 20) rfl ?_); refine goesL_ (some 37) rfl rfl Try.func20 (by kernel_rfl) rfl #[.pointer (some ⟨g188, 0, none⟩)] rfl (by (try simp only [List.map_toArray, List.map_cons, List.map_nil]); first | done | rfl | (simp only [List.length_drop, List.length_take]; rfl)) ?_; (with_reducible refine (collect_Collector_Records.calls g188 t192 t193 t196 w _ ?side1 ?side2 A13.out).mono ?_); (case side1 => repeat (first | (with_reducible first | exact HI188.out | apply IsS58.alloc | apply IsS58.drewN | apply IsS58.drew | apply IsS58.set_0) | exact HI188.out)); (case side2 => repeat (first | (with_reducible first | exact HB.out | apply below_alloc | apply pw_below_drewN | apply below_drew1 | refine below_set ?_ (IsS58.ge HI188.out)) | exact HB.out)); rintro e w31 ⟨v194, rfl, ho0, hi, hb, hk⟩; refine ⟨_, rfl, ?_⟩; have n0_ := Aside0.mk (Kd.R_lower ho0 (below_size (by repeat (first | (with_reducible first | exact HB.out | apply below_alloc | apply pw_below_drewN | apply below_drew1 | refine below_set ?_ (IsS58.ge HI188.out)) | exact HB.out)))); have n1_ := Aside0.mk (hb); have n2_ := Aside0.mk (hi); clear HB; clear HI188; have HO195 := n0_; have HB := n1_; have HI188 := n2_; clear n0_ n1_ n2_; (try clear hb); (try clear hb2); (try clear hk); (try clear hi); (try clear ho0); have p197 : 0 ≤ (x4_1 : Int) := of_decide_eq_true (by first | (with_reducible assumption) | assumption); have q197 : x4_1 < (l0.length : Int) := of_decide_eq_true (by first | (with_reducible assumption) | assumption); obtain ⟨ad197, A197_0, c197_0, e197, hx197_0, hl197_0, hi197_0⟩ := at_L3 HR0.out x4_1 p197 q197; obtain rfl : ad189 = ad197 := (by injection e197); replace hx197_0 := (HB.out.cell (World.block_lt_of_cell? w _ hx197_0)).trans hx197_0; have HR197_0 := Aside0.mk hi197_0; have HC197_0 := Aside0.mk hl197_0; clear hi197_0 hl197_0; replace p197 := eq_true p197; replace q197 := eq_true q197) | ((with_reducible refine gate_callee (f := 13) rfl ?_); refine goesL_ (some 44) rfl rfl Try.func13 (by kernel_rfl) rfl #[.pointer (some ⟨g188, 0, none⟩), .slice A197_0 (rd_L3 l0 x4_1).length c197_0] rfl (by (try simp only [List.map_toArray, List.map_cons, List.map_nil]); first | done | rfl | (simp only [List.length_drop, List.length_take]; rfl)) ?_; (with_reducible refine (collect_Collector_Take.calls k1 g188 t196 _ _ (rd_L3 l0 x4_1) t198 t199 t200 w _ ?side1 ?side2 ?side3 ?side4 A14.out).mono ?_); (case side1 => repeat (first | (with_reducible first | exact HI188.out | apply IsS58.alloc | apply IsS58.drewN | apply IsS58.drew | apply IsS58.set_0) | exact HI188.out)); (case side2 => repeat (first | (with_reducible first | exact HB.out | apply below_alloc | apply pw_below_drewN | apply below_drew1 | refine below_set ?_ (IsS58.ge HI188.out)) | exact HB.out)); (case side3 => exact Kd.C_foot_came k42_heap HR197_0.out (by repeat (first | (with_reducible first | exact HB.out | apply below_alloc | apply pw_below_drewN | apply below_drew1 | refine below_set ?_ (IsS58.ge HI188.out)) | exact HB.out)) (IsS58.ge HI188.out)); (case side4 => exact HC197_0.out); rintro e w32 ⟨rfl, hi, hb, hk⟩; refine ⟨_, rfl, ?_⟩; have n0_ := Aside0.mk (Kd.R_mono (Kd.R_keep (IsS58.apart (show IsS58 w _ g188 t196 from by repeat (first | (with_reducible first | exact HI188.out | apply IsS58.alloc | apply IsS58.drewN | apply IsS58.drew | apply IsS58.set_0) | exact HI188.out)) (by (with_reducible repeat (first | apply Kd.R_alloc | apply Kd.R_drewN | apply Kd.R_drew)); exact HO195.out) (by decide)) hk (fun _ h => h.2)) (fun _ h => h.1)); have n1_ := Aside0.mk (hb); have n2_ := Aside0.mk (hi); clear HO195; clear HB; clear HI188; have HO195 := n0_; have HB := n1_; have HI188 := n2_; clear n0_ n1_ n2_; (try clear hb); (try clear hb2); (try clear hk); (try clear hi); obtain ⟨Ao33, co33, eo33⟩ := Kd.R_slice HO195.out; subst eo33) | ((with_reducible refine gate_callee (f := 13) rfl ?_); refine goesL_ (some 50) rfl rfl Try.func13 (by kernel_rfl) rfl #[.pointer (some ⟨g188, 0, none⟩), .slice Ao33 t193.length co33] rfl (by (try simp only [List.map_toArray, List.map_cons, List.map_nil]); first | done | rfl | (simp only [List.length_drop, List.length_take]; rfl)) ?_; (with_reducible refine (collect_Collector_Take.calls k1 g188 t200 _ _ t193 t201 t202 t203 w _ ?side1 ?side2 ?side3 ?side4 A15.out).mono ?_); (case side1 => repeat (first | (with_reducible first | exact HI188.out | apply IsS58.alloc | apply IsS58.drewN | apply IsS58.drew | apply IsS58.set_0) | exact HI188.out)); (case side2 => repeat (first | (with_reducible first | exact HB.out | apply below_alloc | apply pw_below_drewN | apply below_drew1 | refine below_set ?_ (IsS58.ge HI188.out)) | exact HB.out)); (case side3 => exact Kd.C_foot_own (IsS58.apart (show IsS58 w _ g188 t200 from by repeat (first | (with_reducible first | exact HI188.out | apply IsS58.alloc | apply IsS58.drewN | apply IsS58.drew | apply IsS58.set_0) | exact HI188.out)) (by (with_reducible repeat (first | apply Kd.R_alloc | apply Kd.R_drewN | apply Kd.R_drew)); exact HO195.out) (by decide)) (fun _ h_ => h_.2)); (case side4 => exact (Kd.R_reads' HO195.out).2.1); rintro e w34 ⟨rfl, hi, hb, hk⟩; refine ⟨_, rfl, ?_⟩; have n0_ := Aside0.mk (Kd.R_mono (Kd.R_keep (IsS58.apart (show IsS58 w _ g188 t200 from by repeat (first | (with_reducible first | exact HI188.out | apply IsS58.alloc | apply IsS58.drewN | apply IsS58.drew | apply IsS58.set_0) | exact HI188.out)) (by (with_reducible repeat (first | apply Kd.R_alloc | apply Kd.R_drewN | apply Kd.R_drew)); exact HO195.out) (by decide)) hk (fun _ h => h.2)) (fun _ h => h.1)); have n1_ := Aside0.mk (hb); have n2_ := Aside0.mk (hi); clear HO195; clear HB; clear HI188; have HO195 := n0_; have HB := n1_; have HI188 := n2_; clear n0_ n1_ n2_; (try clear hb); (try clear hb2); (try clear hk); (try clear hi)) | (go_at_call 20; (with_reducible refine (collect_Collector_Records.calls g188 t203 t204 t207 w _ ?side1 ?side2 A20.out).mono ?_); (case side1 => repeat (first | (with_reducible first | exact HI188.out | apply IsS58.alloc | apply IsS58.drewN | apply IsS58.drew | apply IsS58.set_0) | exact HI188.out)); (case side2 => repeat (first | (with_reducible first | exact HB.out | apply below_alloc | apply pw_below_drewN | apply below_drew1 | refine below_set ?_ (IsS58.ge HI188.out)) | exact HB.out)); rintro e w35 ⟨v205, rfl, ho0, hi, hb, hk⟩; have n0_ := Aside0.mk (Kd.R_mono (Kd.R_told (Kd.R_oldK (IsS58.apart (show IsS58 w _ g188 t203 from by repeat (first | (with_reducible first | exact HI188.out | apply IsS58.alloc | apply IsS58.drewN | apply IsS58.drew | apply IsS58.set_0) | exact HI188.out)) (by (with_reducible repeat (first | apply Kd.R_alloc | apply Kd.R_drewN | apply Kd.R_drew)); exact HO195.out) (by decide)) hk) (Kd.R_base ho0)) (fun _ h_ => h_.1)); have n1_ := Aside0.mk (Kd.R_lower (Kd.R_new' ho0 (Kd.R_lt (by (with_reducible repeat (first | apply Kd.R_alloc | apply Kd.R_drewN | apply Kd.R_drew)); exact HO195.out))) (below_size (by repeat (first | (with_reducible first | exact HB.out | apply below_alloc | apply pw_below_drewN | apply below_drew1 | refine below_set ?_ (IsS58.ge HI188.out)) | exact HB.out)))); have n2_ := Aside0.mk (hb); have n3_ := Aside0.mk (hi); clear HO195; clear HB; clear HI188; have HO195 := n0_; have HO206 := n1_; have HB := n2_; have HI188 := n3_; clear n0_ n1_ n2_ n3_; (try clear hb); (try clear hb2); (try clear hk); (try clear hi); (try clear ho0); obtain ⟨Ao36, co36, eo36⟩ := Kd.R_slice HO206.out; subst eo36) | (go_at_call 19; (with_reducible refine (plenumref42_Same.calls k1 _ _ t193 _ _ t204 false _ ?side1 ?side2 ?side3 ?side4 A21.out).mono ?_); (case side1 => repeat (first | exact (Kd.R_reads' HO195.out).2.2 | (with_reducible refine Kd.C_alloc ?_ _) | (with_reducible refine Kd.C_drewN ?_ _) | (with_reducible refine Kd.C_drew ?_))); (case side2 => exact (Kd.R_reads' HO195.out).2.1); (case side3 => repeat (first | exact (Kd.R_reads' HO206.out).2.2 | (with_reducible refine Kd.C_alloc ?_ _) | (with_reducible refine Kd.C_drewN ?_ _) | (with_reducible refine Kd.C_drew ?_))); (case side4 => exact (Kd.R_reads' HO206.out).2.1); rintro e w' ⟨rfl, ⟨nd, rfl⟩⟩))
             go_ret
             exact ⟨by first | rfl | (simp [errW_none, errW_some] <;> rfl) | (simp [*, errW_none, errW_some] <;> rfl), by repeat (first | (with_reducible first | exact HB.out | apply below_alloc | apply pw_below_drewN | apply below_drew1 | refine below_set ?_ (IsS58.ge HI188.out)) | exact HB.out)⟩
           ·rw [if_neg c19] at H
            exact absurd H (by simp)
          ·rw [if_neg c18] at H
           exact absurd H (by simp)
         ·rw [if_neg c17] at H
          exact absurd H (by simp)
        ·rw [if_neg c16] at H
         exact absurd H (by simp)
       ·rw [if_neg c12] at H
        have c12b0 : (t191 == 0) = false := beq_eq_false_iff_ne.mpr c12
        have c12b1 : (t191 != 0) = true := bne_iff_ne.mpr c12
        have H' := Aside0.mk H
        clear H
        have p189 : 0 ≤ (x4_1 : Int) := of_decide_eq_true (by first | (with_reducible assumption) | assumption)
        have q189 : x4_1 < (l0.length : Int) := of_decide_eq_true (by first | (with_reducible assumption) | assumption)
        obtain ⟨ad189, A189_0, c189_0, e189, hx189_0, hl189_0, hi189_0⟩ := at_L3 HR0.out x4_1 p189 q189
        cases e189
        replace hx189_0 := (HB.out.cell (World.block_lt_of_cell? w _ hx189_0)).trans hx189_0
        have HR189_0 := Aside0.mk hi189_0
        have HC189_0 := Aside0.mk hl189_0
        clear hi189_0 hl189_0
        replace p189 := eq_true p189
        replace q189 := eq_true q189
        go_wp2_with (first | ((with_reducible refine gate_callee (f := 13) rfl ?_); refine goesL_ (some 31) rfl rfl Try.func13 (by kernel_rfl) rfl #[.pointer (some ⟨g188, 0, none⟩), .slice A189_0 (rd_L3 l0 x4_1).length c189_0] rfl (by (try simp only [List.map_toArray, List.map_cons, List.map_nil]); first | done | rfl | (simp only [List.length_drop, List.length_take]; rfl)) ?_; (with_reducible refine (collect_Collector_Take.calls k1 g188 x189000_1 _ _ (rd_L3 l0 x4_1) t190 t191 t192 w _ ?side1 ?side2 ?side3 ?side4 A11.out).mono ?_); (case side1 => repeat (first | (with_reducible first | exact HI188.out | apply IsS58.alloc | apply IsS58.drewN | apply IsS58.drew | apply IsS58.set_0) | exact HI188.out)); (case side2 => repeat (first | (with_reducible first | exact HB.out | apply below_alloc | apply pw_below_drewN | apply below_drew1 | refine below_set ?_ (IsS58.ge HI188.out)) | exact HB.out)); (case side3 => exact Kd.C_foot_came k42_heap HR189_0.out (by repeat (first | (with_reducible first | exact HB.out | apply below_alloc | apply pw_below_drewN | apply below_drew1 | refine below_set ?_ (IsS58.ge HI188.out)) | exact HB.out)) (IsS58.ge HI188.out)); (case side4 => exact HC189_0.out); rintro e w37 ⟨rfl, hi, hb, hk⟩; refine ⟨_, rfl, ?_⟩; have n0_ := Aside0.mk (hb); have n1_ := Aside0.mk (hi); clear HB; clear HI188; have HB := n0_; have HI188 := n1_; clear n0_ n1_; (try clear hb); (try clear hb2); (try clear hk); (try clear hi)))
        go_roundg k1
        case measure => have := HK1.out; omega
        case rel => exact ⟨(wrap64 (x4_1 + 1)), (t192), (by first | rfl | (simp; done) | (simp [*]; done)), H', ⟨by have := HK1.out; omega⟩, ⟨by repeat (first | (with_reducible first | exact HI188.out | apply IsS58.alloc | apply IsS58.drewN | apply IsS58.drew | apply IsS58.set_0) | exact HI188.out)⟩, ⟨by repeat (first | (with_reducible first | exact HB.out | apply below_alloc | apply pw_below_drewN | apply below_drew1 | refine below_set ?_ (IsS58.ge HI188.out)) | exact HB.out)⟩⟩
      ·rw [if_neg c10] at H
       exact absurd H (by simp)
     ·rw [if_neg c9] at H
      have c9b0 : decide (x4_1 < (l0.length : Int)) = false := decide_eq_false c9
      clear c9
      replace H := Option.bind_eq_some_iff.mp H
      obtain ⟨⟨t209, t212⟩, A380, H⟩ := H
      replace H : ((collect_Check.f k1 t209).bind fun t213 => (if t213 = 0 then (if (t209.length : Int) = 0 then ((collect_Collector_From.f t212).bind fun bt214 => (if bt214.1 = 1 then (some true) else (if (t209.length : Int) > 0 then (if 0 < (t209.length : Int) then ((plenumref42_First.f ((rd_T42 t209 0).f0) ((rd_T42 t209 0).f1) ((rd_T42 t209 0).f2.f0) ((rd_T42 t209 0).f2.f1) ((rd_T42 t209 0).f3) ((rd_T42 t209 0).f4)).bind fun t217 => (if t217 = 1 then (if 0 ≤ (wrap64 ((t209.length : Int) - 1)) then (if (wrap64 ((t209.length : Int) - 1)) < (t209.length : Int) then ((collect_Collector_From.f bt214.2).bind fun bt219 => (some ((wrap64 (((rd_T42 t209 (wrap64 ((t209.length : Int) - 1))).f0) + 1)) == bt219.1))) else (none)) else (none)) else (none))) else (none)) else (none)))) else (if (t209.length : Int) > 0 then (if 0 < (t209.length : Int) then ((plenumref42_First.f ((rd_T42 t209 0).f0) ((rd_T42 t209 0).f1) ((rd_T42 t209 0).f2.f0) ((rd_T42 t209 0).f2.f1) ((rd_T42 t209 0).f3) ((rd_T42 t209 0).f4)).bind fun t222 => (if t222 = 1 then (if 0 ≤ (wrap64 ((t209.length : Int) - 1)) then (if (wrap64 ((t209.length : Int) - 1)) < (t209.length : Int) then ((collect_Collector_From.f t212).bind fun bt224 => (some ((wrap64 (((rd_T42 t209 (wrap64 ((t209.length : Int) - 1))).f0) + 1)) == bt224.1))) else (none)) else (none)) else (none))) else (none)) else (none))) else (none))) = some r := H
      have A38 := Aside0.mk A380
      clear A380
      replace H := Option.bind_eq_some_iff.mp H
      obtain ⟨t213, A390, H⟩ := H
      replace H : (if t213 = 0 then (if (t209.length : Int) = 0 then ((collect_Collector_From.f t212).bind fun bt214 => (if bt214.1 = 1 then (some true) else (if (t209.length : Int) > 0 then (if 0 < (t209.length : Int) then ((plenumref42_First.f ((rd_T42 t209 0).f0) ((rd_T42 t209 0).f1) ((rd_T42 t209 0).f2.f0) ((rd_T42 t209 0).f2.f1) ((rd_T42 t209 0).f3) ((rd_T42 t209 0).f4)).bind fun t217 => (if t217 = 1 then (if 0 ≤ (wrap64 ((t209.length : Int) - 1)) then (if (wrap64 ((t209.length : Int) - 1)) < (t209.length : Int) then ((collect_Collector_From.f bt214.2).bind fun bt219 => (some ((wrap64 (((rd_T42 t209 (wrap64 ((t209.length : Int) - 1))).f0) + 1)) == bt219.1))) else (none)) else (none)) else (none))) else (none)) else (none)))) else (if (t209.length : Int) > 0 then (if 0 < (t209.length : Int) then ((plenumref42_First.f ((rd_T42 t209 0).f0) ((rd_T42 t209 0).f1) ((rd_T42 t209 0).f2.f0) ((rd_T42 t209 0).f2.f1) ((rd_T42 t209 0).f3) ((rd_T42 t209 0).f4)).bind fun t222 => (if t222 = 1 then (if 0 ≤ (wrap64 ((t209.length : Int) - 1)) then (if (wrap64 ((t209.length : Int) - 1)) < (t209.length : Int) then ((collect_Collector_From.f t212).bind fun bt224 => (some ((wrap64 (((rd_T42 t209 (wrap64 ((t209.length : Int) - 1))).f0) + 1)) == bt224.1))) else (none)) else (none)) else (none))) else (none)) else (none))) else (none)) = some r := H
      have A39 := Aside0.mk A390
      clear A390
      by_cases c40 : t213 = 0
      ·rw [if_pos c40] at H
       have c40b0 : (t213 == 0) = true := beq_iff_eq.mpr c40
       have c40b1 : (t213 != 0) = false := bne_eq_false_iff_eq.mpr c40
       clear c40
       by_cases c41 : (t209.length : Int) = 0
       ·rw [if_pos c41] at H
        have c41b0 : ((t209.length : Int) == 0) = true := beq_iff_eq.mpr c41
        have c41b1 : ((t209.length : Int) != 0) = false := bne_eq_false_iff_eq.mpr c41
        clear c41
        replace H := Option.bind_eq_some_iff.mp H
        obtain ⟨⟨t214, t215⟩, A420, H⟩ := H
        replace H : (if t214 = 1 then (some true) else (if (t209.length : Int) > 0 then (if 0 < (t209.length : Int) then ((plenumref42_First.f ((rd_T42 t209 0).f0) ((rd_T42 t209 0).f1) ((rd_T42 t209 0).f2.f0) ((rd_T42 t209 0).f2.f1) ((rd_T42 t209 0).f3) ((rd_T42 t209 0).f4)).bind fun t217 => (if t217 = 1 then (if 0 ≤ (wrap64 ((t209.length : Int) - 1)) then (if (wrap64 ((t209.length : Int) - 1)) < (t209.length : Int) then ((collect_Collector_From.f t215).bind fun bt219 => (some ((wrap64 (((rd_T42 t209 (wrap64 ((t209.length : Int) - 1))).f0) + 1)) == bt219.1))) else (none)) else (none)) else (none))) else (none)) else (none))) = some r := H
        have A42 := Aside0.mk A420
        clear A420
        by_cases c43 : t214 = 1
        ·rw [if_pos c43] at H
         have c43b0 : (t214 == 1) = true := beq_iff_eq.mpr c43
         have c43b1 : (t214 != 1) = false := bne_eq_false_iff_eq.mpr c43
         clear c43
         obtain rfl := Option.some.inj H
         try go_wp2_with (first | ((with_reducible refine gate_callee (f := 20) rfl ?_); refine goesL_ (some 75) rfl rfl Try.func20 (by kernel_rfl) rfl #[.pointer (some ⟨g188, 0, none⟩)] rfl (by (try simp only [List.map_toArray, List.map_cons, List.map_nil]); first | done | rfl | (simp only [List.length_drop, List.length_take]; rfl)) ?_; (with_reducible refine (collect_Collector_Records.calls g188 x189000_1 t209 t212 w _ ?side1 ?side2 A38.out).mono ?_); (case side1 => repeat (first | (with_reducible first | exact HI188.out | apply IsS58.alloc | apply IsS58.drewN | apply IsS58.drew | apply IsS58.set_0) | exact HI188.out)); (case side2 => repeat (first | (with_reducible first | exact HB.out | apply below_alloc | apply pw_below_drewN | apply below_drew1 | refine below_set ?_ (IsS58.ge HI188.out)) | exact HB.out)); rintro e w44 ⟨v210, rfl, ho0, hi, hb, hk⟩; refine ⟨_, rfl, ?_⟩; have n0_ := Aside0.mk (Kd.R_lower ho0 (below_size (by repeat (first | (with_reducible first | exact HB.out | apply below_alloc | apply pw_below_drewN | apply below_drew1 | refine below_set ?_ (IsS58.ge HI188.out)) | exact HB.out)))); have n1_ := Aside0.mk (hb); have n2_ := Aside0.mk (hi); clear HB; clear HI188; have HO211 := n0_; have HB := n1_; have HI188 := n2_; clear n0_ n1_ n2_; (try clear hb); (try clear hb2); (try clear hk); (try clear hi); (try clear ho0)))
         have n0_ := Aside0.mk (Kd.R_drew HO211.out)
         have n1_ := Aside0.mk (IsS58.drew HI188.out)
         have n2_ := Aside0.mk (below_drew1 HB.out)
         clear HO211
         clear HI188
         clear HB
         have HO211 := n0_
         have HI188 := n1_
         have HB := n2_
         clear n0_ n1_ n2_
         obtain ⟨Ao46, co46, eo46⟩ := Kd.R_slice HO211.out
         (first | subst eo46 | (injection eo46 with f1_ f2_ f3_; have f4_ := f1_.symm; have f5_ := f3_.symm; clear f1_ f2_ f3_; subst f4_; subst f5_))
         refine start_ (n := 39) (S := fun w' => True) (ds := []) #[false, false, false, false, false, false, false, false, false, false, false, false, false, false, false, false, false, false, false, false, false, false, false, false, false, false, false, false, false, false, false, false, false, false, false, false, false, false, false] (by kernel_rfl) rfl rfl trivial (fun hHeld => ?_); refine with_tabW plenumlaw42_CollectSound.tab17 plenumlaw42_CollectSound.bits17 (fun HT_ HW_ => ?_)
         generalize w44.drew = w45 at HO211 HI188 HB hHeld ⊢
         refine pure_ (i := 0) (N := some 76) (v := ?_) (a' := ?_) #[true, false, false, false, false, false, false, false, false, false, false, false, false, false, false, false, false, false, false, false, false, false, false, false, false, false, false, false, false, false, false, false, false, false, false, false, false, false, false] rfl rfl (any_of HT_.out (by kernel_rfl)) (fun _ _ _ h => h) (Or.inl ⟨by rfl, ?_⟩) ?_ ?_
         rotate_left
         ·intro w'
          go_simp
          with_reducible rfl
         rotate_left
         ·simp only [Act.put, List.setIfInBounds_toArray, List.set_cons_zero, List.set_cons_succ, i64_w, i32_w]
          rfl
         refine one_ (i := 1) (N := some 77) #[true, true, false, false, false, false, false, false, false, false, false, false, false, false, false, false, false, false, false, false, false, false, false, false, false, false, false, false, false, false, false, false, false, false, false, false, false, false, false] rfl rfl (one_of HT_.out (by kernel_rfl)) (by decide) (fun K hK => ?_)
         refine goes_ Try.func21 (by kernel_rfl) rfl #[.slice Ao46 t209.length co46] (by rfl) rfl rfl (by (try simp only [List.map_toArray, List.map_cons, List.map_nil]); first | done | rfl | (simp only [List.length_drop, List.length_take]; rfl)) ?_
         with_reducible refine (collect_Check.calls k1 _ _ t209 t213 _ ?side1 ?side2 A39.out).mono ?_
         (case side1 => repeat (first | exact (Kd.R_reads' HO211.out).2.2 | (with_reducible refine Kd.C_alloc ?_ _) | (with_reducible refine Kd.C_drewN ?_ _) | (with_reducible refine Kd.C_drew ?_)))
         (case side2 => exact (Kd.R_reads' HO211.out).2.1)
         rintro e w47 ⟨rfl, hb⟩
         refine ⟨_, rfl, ?_⟩
         have n0_ := Aside0.mk (Kd.R_below (by (with_reducible repeat (first | apply Kd.R_alloc | apply Kd.R_drewN | apply Kd.R_drew)); exact HO211.out) hb)
         have n1_ := Aside0.mk (IsS58.below (by repeat (first | (with_reducible first | exact HI188.out | apply IsS58.alloc | apply IsS58.drewN | apply IsS58.drew | apply IsS58.set_0) | exact HI188.out)) hb)
         have n2_ := Aside0.mk (below_step (by repeat (first | (with_reducible first | exact HB.out | apply below_alloc | apply pw_below_drewN | apply below_drew1 | refine below_set ?_ (IsS58.ge HI188.out)) | exact HB.out)) hb)
         clear HO211
         clear HI188
         clear HB
         have HO211 := n0_
         have HI188 := n1_
         have HB := n2_
         clear n0_ n1_ n2_
         (try clear hb)
         (try clear hb2)
         (try clear hk)
         (try clear hi)
         refine hK.out _ _ trivial (fun hHeld => ?_)
         clear hK K
         refine norm_ (a' := ?_) ?_ ?_
         rotate_left
         ·show Act.put _ (some 77) _ = _
          simp only [Act.put, List.setIfInBounds_toArray, List.set_cons_zero, List.set_cons_succ, i64_w, i32_w]
          rfl
         refine pure_ (i := 2) (N := some 78) (v := ?_) (a' := ?_) #[true, true, true, false, false, false, false, false, false, false, false, false, false, false, false, false, false, false, false, false, false, false, false, false, false, false, false, false, false, false, false, false, false, false, false, false, false, false, false] rfl rfl (any_of HT_.out (by kernel_rfl)) (fun _ _ _ h => h) (Or.inl ⟨by rfl, ?_⟩) ?_ ?_
         rotate_left
         ·intro w'
          go_simp
          with_reducible rfl
         rotate_left
         ·simp only [Act.put, List.setIfInBounds_toArray, List.set_cons_zero, List.set_cons_succ, i64_w, i32_w]
          rfl
         refine pure_ (i := 3) (N := some 79) (v := ?_) (a' := ?_) #[true, true, true, true, false, false, false, false, false, false, false, false, false, false, false, false, false, false, false, false, false, false, false, false, false, false, false, false, false, false, false, false, false, false, false, false, false, false, false] rfl rfl (any_of HT_.out (by kernel_rfl)) (fun _ _ _ h => h) (Or.inl ⟨by rfl, ?_⟩) ?_ ?_
         rotate_left
         ·intro w'
          go_simp
          with_reducible rfl
         rotate_left
         ·simp only [Act.put, List.setIfInBounds_toArray, List.set_cons_zero, List.set_cons_succ, i64_w, i32_w]
          rfl
         refine pure_ (i := 4) (N := some 80) (v := ?_) (a' := ?_) #[true, true, true, true, true, false, false, false, false, false, false, false, false, false, false, false, false, false, false, false, false, false, false, false, false, false, false, false, false, false, false, false, false, false, false, false, false, false, false] rfl rfl (any_of HT_.out (by kernel_rfl)) (fun _ _ _ h => h) (Or.inl ⟨by rfl, ?_⟩) ?_ ?_
         rotate_left
         ·intro w'
          go_simp
          with_reducible rfl
         rotate_left
         ·simp only [Act.put, List.setIfInBounds_toArray, List.set_cons_zero, List.set_cons_succ, i64_w, i32_w]
          rfl
         refine pure_ (i := 5) (N := some 81) (v := ?_) (a' := ?_) #[true, true, true, true, true, true, false, false, false, false, false, false, false, false, false, false, false, false, false, false, false, false, false, false, false, false, false, false, false, false, false, false, false, false, false, false, false, false, false] rfl rfl (any_of HT_.out (by kernel_rfl)) (fun _ _ _ h => h) (Or.inl ⟨by rfl, ?_⟩) ?_ ?_
         rotate_left
         ·intro w'
          go_simp
          with_reducible rfl
         rotate_left
         ·simp only [Act.put, List.setIfInBounds_toArray, List.set_cons_zero, List.set_cons_succ, i64_w, i32_w]
          rfl
         refine pure_ (i := 6) (N := some 82) (v := ?_) (a' := ?_) #[true, true, true, true, true, true, true, false, false, false, false, false, false, false, false, false, false, false, false, false, false, false, false, false, false, false, false, false, false, false, false, false, false, false, false, false, false, false, false] rfl rfl (any_of HT_.out (by kernel_rfl)) (fun _ _ _ h => h) (Or.inl ⟨by rfl, ?_⟩) ?_ ?_
         rotate_left
         ·intro w'
          go_simp
          with_reducible rfl
         rotate_left
         ·simp only [Act.put, List.setIfInBounds_toArray, List.set_cons_zero, List.set_cons_succ, i64_w, i32_w]
          rfl
         refine pure_ (i := 7) (N := some 83) (v := ?_) (a' := ?_) #[true, true, true, true, true, true, true, true, false, false, false, false, false, false, false, false, false, false, false, false, false, false, false, false, false, false, false, false, false, false, false, false, false, false, false, false, false, false, false] rfl rfl (any_of HT_.out (by kernel_rfl)) (fun _ _ _ h => h) (Or.inl ⟨by rfl, ?_⟩) ?_ ?_
         rotate_left
         ·intro w'
          go_simp
          with_reducible rfl
         rotate_left
         ·simp only [Act.put, List.setIfInBounds_toArray, List.set_cons_zero, List.set_cons_succ, i64_w, i32_w]
          rfl
         refine pure_ (i := 8) (N := some 84) (v := ?_) (a' := ?_) #[true, true, true, true, true, true, true, true, true, false, false, false, false, false, false, false, false, false, false, false, false, false, false, false, false, false, false, false, false, false, false, false, false, false, false, false, false, false, false] rfl rfl (any_of HT_.out (by kernel_rfl)) (fun _ _ _ h => h) (Or.inl ⟨by rfl, ?_⟩) ?_ ?_
         rotate_left
         ·intro w'
          go_simp
          with_reducible rfl
         rotate_left
         ·simp only [Act.put, List.setIfInBounds_toArray, List.set_cons_zero, List.set_cons_succ, i64_w, i32_w]
          rfl
         refine one_ (i := 9) (N := some 85) #[true, true, true, true, true, true, true, true, true, true, false, false, false, false, false, false, false, false, false, false, false, false, false, false, false, false, false, false, false, false, false, false, false, false, false, false, false, false, false] rfl rfl (one_of HT_.out (by kernel_rfl)) (by decide) (fun K hK => ?_)
         refine goes_ Try.func15 (by kernel_rfl) rfl #[.pointer (some ⟨g188, 0, none⟩)] (by rfl) rfl rfl (by (try simp only [List.map_toArray, List.map_cons, List.map_nil]); first | done | rfl | (simp only [List.length_drop, List.length_take]; rfl)) ?_
         with_reducible refine (collect_Collector_From.calls g188 t212 t214 t215 w _ ?side1 ?side2 A42.out).mono ?_
         (case side1 => repeat (first | (with_reducible first | exact HI188.out | apply IsS58.alloc | apply IsS58.drewN | apply IsS58.drew | apply IsS58.set_0) | exact HI188.out))
         (case side2 => repeat (first | (with_reducible first | exact HB.out | apply below_alloc | apply pw_below_drewN | apply below_drew1 | refine below_set ?_ (IsS58.ge HI188.out)) | exact HB.out))
         rintro e w48 ⟨rfl, hi, hb, hk⟩
         refine ⟨_, rfl, ?_⟩
         have n0_ := Aside0.mk (Kd.R_mono (Kd.R_keep (IsS58.apart (show IsS58 w _ g188 t212 from by repeat (first | (with_reducible first | exact HI188.out | apply IsS58.alloc | apply IsS58.drewN | apply IsS58.drew | apply IsS58.set_0) | exact HI188.out)) (by (with_reducible repeat (first | apply Kd.R_alloc | apply Kd.R_drewN | apply Kd.R_drew)); exact HO211.out) (by decide)) hk (fun _ h => h.2)) (fun _ h => h.1))
         have n1_ := Aside0.mk (hb)
         have n2_ := Aside0.mk (hi)
         clear HO211
         clear HB
         clear HI188
         have HO211 := n0_
         have HB := n1_
         have HI188 := n2_
         clear n0_ n1_ n2_
         (try clear hb)
         (try clear hb2)
         (try clear hk)
         (try clear hi)
         refine hK.out _ _ trivial (fun hHeld => ?_)
         clear hK K
         refine norm_ (a' := ?_) ?_ ?_
         rotate_left
         ·show Act.put _ (some 85) _ = _
          simp only [Act.put, List.setIfInBounds_toArray, List.set_cons_zero, List.set_cons_succ, i64_w, i32_w]
          rfl
         refine pure_ (i := 10) (N := some 86) (v := ?_) (a' := ?_) #[true, true, true, true, true, true, true, true, true, true, true, false, false, false, false, false, false, false, false, false, false, false, false, false, false, false, false, false, false, false, false, false, false, false, false, false, false, false, false] rfl rfl (any_of HT_.out (by kernel_rfl)) (fun _ _ _ h => h) (Or.inl ⟨by rfl, ?_⟩) ?_ ?_
         rotate_left
         ·intro w'
          go_simp
          with_reducible rfl
         rotate_left
         ·simp only [Act.put, List.setIfInBounds_toArray, List.set_cons_zero, List.set_cons_succ, i64_w, i32_w]
          rfl
         refine pure_ (i := 11) (N := some 87) (v := ?_) (a' := ?_) #[true, true, true, true, true, true, true, true, true, true, true, true, false, false, false, false, false, false, false, false, false, false, false, false, false, false, false, false, false, false, false, false, false, false, false, false, false, false, false] rfl rfl (any_of HT_.out (by kernel_rfl)) (fun _ _ _ h => h) (Or.inl ⟨by rfl, ?_⟩) ?_ ?_
         rotate_left
         ·intro w'
          go_simp
          with_reducible rfl
         rotate_left
         ·simp only [Act.put, List.setIfInBounds_toArray, List.set_cons_zero, List.set_cons_succ, i64_w, i32_w]
          rfl
         refine pure_ (i := 12) (N := some 88) (v := ?_) (a' := ?_) #[true, true, true, true, true, true, true, true, true, true, true, true, true, false, false, false, false, false, false, false, false, false, false, false, false, false, false, false, false, false, false, false, false, false, false, false, false, false, false] rfl rfl (any_of HT_.out (by kernel_rfl)) (fun _ _ _ h => h) (Or.inl ⟨by rfl, ?_⟩) ?_ ?_
         rotate_left
         ·intro w'
          go_simp
          with_reducible rfl
         rotate_left
         ·simp only [Act.put, List.setIfInBounds_toArray, List.set_cons_zero, List.set_cons_succ, i64_w, i32_w]
          rfl
         refine pure_ (i := 13) (N := some 89) (v := undef) (a' := ?_) #[true, true, true, true, true, true, true, true, true, true, true, true, true, true, false, false, false, false, false, false, false, false, false, false, false, false, false, false, false, false, false, false, false, false, false, false, false, false, false] rfl rfl (any_of HT_.out (by kernel_rfl)) (fun _ _ _ h => h) (Or.inr ⟨by rfl, rfl⟩) ?_ ?_
         rotate_left
         ·simp only [Act.put, List.setIfInBounds_toArray, List.set_cons_zero, List.set_cons_succ, i64_w, i32_w]
          rfl
         refine pure_ (i := 14) (N := some 90) (v := undef) (a' := ?_) #[true, true, true, true, true, true, true, true, true, true, true, true, true, true, true, false, false, false, false, false, false, false, false, false, false, false, false, false, false, false, false, false, false, false, false, false, false, false, false] rfl rfl (any_of HT_.out (by kernel_rfl)) (fun _ _ _ h => h) (Or.inr ⟨by rfl, rfl⟩) ?_ ?_
         rotate_left
         ·simp only [Act.put, List.setIfInBounds_toArray, List.set_cons_zero, List.set_cons_succ, i64_w, i32_w]
          rfl
         refine pure_ (i := 15) (N := some 91) (v := undef) (a' := ?_) #[true, true, true, true, true, true, true, true, true, true, true, true, true, true, true, true, false, false, false, false, false, false, false, false, false, false, false, false, false, false, false, false, false, false, false, false, false, false, false] rfl rfl (any_of HT_.out (by kernel_rfl)) (fun _ _ _ h => h) (Or.inr ⟨by rfl, rfl⟩) ?_ ?_
         rotate_left
         ·simp only [Act.put, List.setIfInBounds_toArray, List.set_cons_zero, List.set_cons_succ, i64_w, i32_w]
          rfl
         refine pure_ (i := 16) (N := some 92) (v := undef) (a' := ?_) #[true, true, true, true, true, true, true, true, true, true, true, true, true, true, true, true, true, false, false, false, false, false, false, false, false, false, false, false, false, false, false, false, false, false, false, false, false, false, false] rfl rfl (any_of HT_.out (by kernel_rfl)) (fun _ _ _ h => h) (Or.inr ⟨by rfl, rfl⟩) ?_ ?_
         rotate_left
         ·simp only [Act.put, List.setIfInBounds_toArray, List.set_cons_zero, List.set_cons_succ, i64_w, i32_w]
          rfl
         refine pure_ (i := 17) (N := some 93) (v := undef) (a' := ?_) #[true, true, true, true, true, true, true, true, true, true, true, true, true, true, true, true, true, true, false, false, false, false, false, false, false, false, false, false, false, false, false, false, false, false, false, false, false, false, false] rfl rfl (any_of HT_.out (by kernel_rfl)) (fun _ _ _ h => h) (Or.inr ⟨by rfl, rfl⟩) ?_ ?_
         rotate_left
         ·simp only [Act.put, List.setIfInBounds_toArray, List.set_cons_zero, List.set_cons_succ, i64_w, i32_w]
          rfl
         refine pure_ (i := 18) (N := some 94) (v := undef) (a' := ?_) #[true, true, true, true, true, true, true, true, true, true, true, true, true, true, true, true, true, true, true, false, false, false, false, false, false, false, false, false, false, false, false, false, false, false, false, false, false, false, false] rfl rfl (any_of HT_.out (by kernel_rfl)) (fun _ _ _ h => h) (Or.inr ⟨by rfl, rfl⟩) ?_ ?_
         rotate_left
         ·simp only [Act.put, List.setIfInBounds_toArray, List.set_cons_zero, List.set_cons_succ, i64_w, i32_w]
          rfl
         refine pure_ (i := 19) (N := some 95) (v := undef) (a' := ?_) #[true, true, true, true, true, true, true, true, true, true, true, true, true, true, true, true, true, true, true, true, false, false, false, false, false, false, false, false, false, false, false, false, false, false, false, false, false, false, false] rfl rfl (any_of HT_.out (by kernel_rfl)) (fun _ _ _ h => h) (Or.inr ⟨by rfl, rfl⟩) ?_ ?_
         rotate_left
         ·simp only [Act.put, List.setIfInBounds_toArray, List.set_cons_zero, List.set_cons_succ, i64_w, i32_w]
          rfl
         refine pure_ (i := 20) (N := some 96) (v := undef) (a' := ?_) #[true, true, true, true, true, true, true, true, true, true, true, true, true, true, true, true, true, true, true, true, true, false, false, false, false, false, false, false, false, false, false, false, false, false, false, false, false, false, false] rfl rfl (any_of HT_.out (by kernel_rfl)) (fun _ _ _ h => h) (Or.inr ⟨by rfl, rfl⟩) ?_ ?_
         rotate_left
         ·simp only [Act.put, List.setIfInBounds_toArray, List.set_cons_zero, List.set_cons_succ, i64_w, i32_w]
          rfl
         refine pure_ (i := 21) (N := some 97) (v := undef) (a' := ?_) #[true, true, true, true, true, true, true, true, true, true, true, true, true, true, true, true, true, true, true, true, true, true, false, false, false, false, false, false, false, false, false, false, false, false, false, false, false, false, false] rfl rfl (any_of HT_.out (by kernel_rfl)) (fun _ _ _ h => h) (Or.inr ⟨by rfl, rfl⟩) ?_ ?_
         rotate_left
         ·simp only [Act.put, List.setIfInBounds_toArray, List.set_cons_zero, List.set_cons_succ, i64_w, i32_w]
          rfl
         refine pure_ (i := 22) (N := some 98) (v := undef) (a' := ?_) #[true, true, true, true, true, true, true, true, true, true, true, true, true, true, true, true, true, true, true, true, true, true, true, false, false, false, false, false, false, false, false, false, false, false, false, false, false, false, false] rfl rfl (any_of HT_.out (by kernel_rfl)) (fun _ _ _ h => h) (Or.inr ⟨by rfl, rfl⟩) ?_ ?_
         rotate_left
         ·simp only [Act.put, List.setIfInBounds_toArray, List.set_cons_zero, List.set_cons_succ, i64_w, i32_w]
          rfl
         refine pure_ (i := 23) (N := some 99) (v := undef) (a' := ?_) #[true, true, true, true, true, true, true, true, true, true, true, true, true, true, true, true, true, true, true, true, true, true, true, true, false, false, false, false, false, false, false, false, false, false, false, false, false, false, false] rfl rfl (any_of HT_.out (by kernel_rfl)) (fun _ _ _ h => h) (Or.inr ⟨by rfl, rfl⟩) ?_ ?_
         rotate_left
         ·simp only [Act.put, List.setIfInBounds_toArray, List.set_cons_zero, List.set_cons_succ, i64_w, i32_w]
          rfl
         refine pure_ (i := 24) (N := some 100) (v := undef) (a' := ?_) #[true, true, true, true, true, true, true, true, true, true, true, true, true, true, true, true, true, true, true, true, true, true, true, true, true, false, false, false, false, false, false, false, false, false, false, false, false, false, false] rfl rfl (any_of HT_.out (by kernel_rfl)) (fun _ _ _ h => h) (Or.inr ⟨by rfl, rfl⟩) ?_ ?_
         rotate_left
         ·simp only [Act.put, List.setIfInBounds_toArray, List.set_cons_zero, List.set_cons_succ, i64_w, i32_w]
          rfl
         refine pure_ (i := 25) (N := some 101) (v := undef) (a' := ?_) #[true, true, true, true, true, true, true, true, true, true, true, true, true, true, true, true, true, true, true, true, true, true, true, true, true, true, false, false, false, false, false, false, false, false, false, false, false, false, false] rfl rfl (any_of HT_.out (by kernel_rfl)) (fun _ _ _ h => h) (Or.inr ⟨by rfl, rfl⟩) ?_ ?_
         rotate_left
         ·simp only [Act.put, List.setIfInBounds_toArray, List.set_cons_zero, List.set_cons_succ, i64_w, i32_w]
          rfl
         refine pure_ (i := 26) (N := some 102) (v := undef) (a' := ?_) #[true, true, true, true, true, true, true, true, true, true, true, true, true, true, true, true, true, true, true, true, true, true, true, true, true, true, true, false, false, false, false, false, false, false, false, false, false, false, false] rfl rfl (any_of HT_.out (by kernel_rfl)) (fun _ _ _ h => h) (Or.inr ⟨by rfl, rfl⟩) ?_ ?_
         rotate_left
         ·simp only [Act.put, List.setIfInBounds_toArray, List.set_cons_zero, List.set_cons_succ, i64_w, i32_w]
          rfl
         refine pure_ (i := 27) (N := some 103) (v := undef) (a' := ?_) #[true, true, true, true, true, true, true, true, true, true, true, true, true, true, true, true, true, true, true, true, true, true, true, true, true, true, true, true, false, false, false, false, false, false, false, false, false, false, false] rfl rfl (any_of HT_.out (by kernel_rfl)) (fun _ _ _ h => h) (Or.inr ⟨by rfl, rfl⟩) ?_ ?_
         rotate_left
         ·simp only [Act.put, List.setIfInBounds_toArray, List.set_cons_zero, List.set_cons_succ, i64_w, i32_w]
          rfl
         refine pure_ (i := 28) (N := some 104) (v := undef) (a' := ?_) #[true, true, true, true, true, true, true, true, true, true, true, true, true, true, true, true, true, true, true, true, true, true, true, true, true, true, true, true, true, false, false, false, false, false, false, false, false, false, false] rfl rfl (any_of HT_.out (by kernel_rfl)) (fun _ _ _ h => h) (Or.inr ⟨by rfl, rfl⟩) ?_ ?_
         rotate_left
         ·simp only [Act.put, List.setIfInBounds_toArray, List.set_cons_zero, List.set_cons_succ, i64_w, i32_w]
          rfl
         refine pure_ (i := 29) (N := some 105) (v := undef) (a' := ?_) #[true, true, true, true, true, true, true, true, true, true, true, true, true, true, true, true, true, true, true, true, true, true, true, true, true, true, true, true, true, true, false, false, false, false, false, false, false, false, false] rfl rfl (any_of HT_.out (by kernel_rfl)) (fun _ _ _ h => h) (Or.inr ⟨by rfl, rfl⟩) ?_ ?_
         rotate_left
         ·simp only [Act.put, List.setIfInBounds_toArray, List.set_cons_zero, List.set_cons_succ, i64_w, i32_w]
          rfl
         refine pure_ (i := 30) (N := some 106) (v := undef) (a' := ?_) #[true, true, true, true, true, true, true, true, true, true, true, true, true, true, true, true, true, true, true, true, true, true, true, true, true, true, true, true, true, true, true, false, false, false, false, false, false, false, false] rfl rfl (any_of HT_.out (by kernel_rfl)) (fun _ _ _ h => h) (Or.inr ⟨by rfl, rfl⟩) ?_ ?_
         rotate_left
         ·simp only [Act.put, List.setIfInBounds_toArray, List.set_cons_zero, List.set_cons_succ, i64_w, i32_w]
          rfl
         refine pure_ (i := 31) (N := some 107) (v := undef) (a' := ?_) #[true, true, true, true, true, true, true, true, true, true, true, true, true, true, true, true, true, true, true, true, true, true, true, true, true, true, true, true, true, true, true, true, false, false, false, false, false, false, false] rfl rfl (any_of HT_.out (by kernel_rfl)) (fun _ _ _ h => h) (Or.inr ⟨by rfl, rfl⟩) ?_ ?_
         rotate_left
         ·simp only [Act.put, List.setIfInBounds_toArray, List.set_cons_zero, List.set_cons_succ, i64_w, i32_w]
          rfl
         refine pure_ (i := 32) (N := some 108) (v := undef) (a' := ?_) #[true, true, true, true, true, true, true, true, true, true, true, true, true, true, true, true, true, true, true, true, true, true, true, true, true, true, true, true, true, true, true, true, true, false, false, false, false, false, false] rfl rfl (any_of HT_.out (by kernel_rfl)) (fun _ _ _ h => h) (Or.inr ⟨by rfl, rfl⟩) ?_ ?_
         rotate_left
         ·simp only [Act.put, List.setIfInBounds_toArray, List.set_cons_zero, List.set_cons_succ, i64_w, i32_w]
          rfl
         refine pure_ (i := 33) (N := some 109) (v := undef) (a' := ?_) #[true, true, true, true, true, true, true, true, true, true, true, true, true, true, true, true, true, true, true, true, true, true, true, true, true, true, true, true, true, true, true, true, true, true, false, false, false, false, false] rfl rfl (any_of HT_.out (by kernel_rfl)) (fun _ _ _ h => h) (Or.inr ⟨by rfl, rfl⟩) ?_ ?_
         rotate_left
         ·simp only [Act.put, List.setIfInBounds_toArray, List.set_cons_zero, List.set_cons_succ, i64_w, i32_w]
          rfl
         refine pure_ (i := 34) (N := some 110) (v := undef) (a' := ?_) #[true, true, true, true, true, true, true, true, true, true, true, true, true, true, true, true, true, true, true, true, true, true, true, true, true, true, true, true, true, true, true, true, true, true, true, false, false, false, false] rfl rfl (any_of HT_.out (by kernel_rfl)) (fun _ _ _ h => h) (Or.inr ⟨by rfl, rfl⟩) ?_ ?_
         rotate_left
         ·simp only [Act.put, List.setIfInBounds_toArray, List.set_cons_zero, List.set_cons_succ, i64_w, i32_w]
          rfl
         refine pure_ (i := 35) (N := some 111) (v := undef) (a' := ?_) #[true, true, true, true, true, true, true, true, true, true, true, true, true, true, true, true, true, true, true, true, true, true, true, true, true, true, true, true, true, true, true, true, true, true, true, true, false, false, false] rfl rfl (any_of HT_.out (by kernel_rfl)) (fun _ _ _ h => h) (Or.inr ⟨by rfl, rfl⟩) ?_ ?_
         rotate_left
         ·simp only [Act.put, List.setIfInBounds_toArray, List.set_cons_zero, List.set_cons_succ, i64_w, i32_w]
          rfl
         refine pure_ (i := 36) (N := some 112) (v := ?_) (a' := ?_) #[true, true, true, true, true, true, true, true, true, true, true, true, true, true, true, true, true, true, true, true, true, true, true, true, true, true, true, true, true, true, true, true, true, true, true, true, true, false, false] rfl rfl (any_of HT_.out (by kernel_rfl)) (fun _ _ _ h => h) (Or.inl ⟨by rfl, ?_⟩) ?_ ?_
         rotate_left
         ·intro w'
          go_simp
          with_reducible rfl
         rotate_left
         ·simp only [Act.put, List.setIfInBounds_toArray, List.set_cons_zero, List.set_cons_succ, i64_w, i32_w]
          rfl
         refine pure_ (i := 37) (N := some 113) (v := ?_) (a' := ?_) #[true, true, true, true, true, true, true, true, true, true, true, true, true, true, true, true, true, true, true, true, true, true, true, true, true, true, true, true, true, true, true, true, true, true, true, true, true, true, false] rfl rfl (any_of HT_.out (by kernel_rfl)) (fun _ _ _ h => h) (Or.inl ⟨by rfl, ?_⟩) ?_ ?_
         rotate_left
         ·intro w'
          go_simp
          with_reducible rfl
         rotate_left
         ·simp only [Act.put, List.setIfInBounds_toArray, List.set_cons_zero, List.set_cons_succ, i64_w, i32_w]
          rfl
         refine pure_ (i := 38) (N := some 2) (v := ?_) (a' := ?_) #[true, true, true, true, true, true, true, true, true, true, true, true, true, true, true, true, true, true, true, true, true, true, true, true, true, true, true, true, true, true, true, true, true, true, true, true, true, true, true] rfl rfl (any_of HT_.out (by kernel_rfl)) (fun _ _ _ h => h) (Or.inl ⟨by rfl, ?_⟩) ?_ ?_
         rotate_left
         ·intro w'
          go_simp
          with_reducible rfl
         rotate_left
         ·simp only [Act.put, List.setIfInBounds_toArray, List.set_cons_zero, List.set_cons_succ, i64_w, i32_w]
          rfl
         refine done_ (done_of HT_.out (by kernel_rfl)) ?_
         try go_wp2
         go_ret
         exact ⟨by first | rfl | (simp [errW_none, errW_some] <;> rfl) | (simp [*, errW_none, errW_some] <;> rfl), by repeat (first | (with_reducible first | exact HB.out | apply below_alloc | apply pw_below_drewN | apply below_drew1 | refine below_set ?_ (IsS58.ge HI188.out)) | exact HB.out)⟩
        ·rw [if_neg c43] at H
         have c43b0 : (t214 == 1) = false := beq_eq_false_iff_ne.mpr c43
         have c43b1 : (t214 != 1) = true := bne_iff_ne.mpr c43
         by_cases c49 : (t209.length : Int) > 0
         ·rw [if_pos c49] at H
          have c49b0 : decide (0 < (t209.length : Int)) = true := decide_eq_true c49
          have c49b1 : decide (0 < t209.length) = true := decide_eq_true (by omega)
          clear c49
          by_cases c50 : 0 < (t209.length : Int)
          ·rw [if_pos c50] at H
           have c50b0 : decide (0 < (t209.length : Int)) = true := decide_eq_true c50
           have c50b1 : decide (0 < t209.length) = true := decide_eq_true (by omega)
           clear c50
           replace H := Option.bind_eq_some_iff.mp H
           obtain ⟨t217, A510, H⟩ := H
           replace H : (if t217 = 1 then (if 0 ≤ (wrap64 ((t209.length : Int) - 1)) then (if (wrap64 ((t209.length : Int) - 1)) < (t209.length : Int) then ((collect_Collector_From.f t215).bind fun bt219 => (some ((wrap64 (((rd_T42 t209 (wrap64 ((t209.length : Int) - 1))).f0) + 1)) == bt219.1))) else (none)) else (none)) else (none)) = some r := H
           have A51 := Aside0.mk A510
           clear A510
           by_cases c52 : t217 = 1
           ·rw [if_pos c52] at H
            have c52b0 : (t217 == 1) = true := beq_iff_eq.mpr c52
            have c52b1 : (t217 != 1) = false := bne_eq_false_iff_eq.mpr c52
            clear c52
            obtain ⟨ji53, hji53⟩ : ∃ j_ : Int, (wrap64 ((t209.length : Int) - 1)) = j_ := ⟨_, rfl⟩
            replace H : (if 0 ≤ (ji53) then (if (ji53) < (t209.length : Int) then ((collect_Collector_From.f t215).bind fun bt219 => (some ((wrap64 (((rd_T42 t209 (ji53)).f0) + 1)) == bt219.1))) else (none)) else (none)) = some r := by first | (rw [hji53] at H; exact H) | (simp only [hji53] at H ⊢; exact H)
            (try rw [hji53] at A38)
            (try rw [hji53] at A39)
            (try rw [hji53] at A42)
            (try rw [hji53] at A51)
            have hji53w : (IntKind.i64.wrap ((t209.length : Int) - 1)) = ji53 := (i64_w _).trans hji53
            by_cases c54 : 0 ≤ (ji53)
            ·rw [if_pos c54] at H
             have c54b0 : decide (0 ≤ (ji53)) = true := decide_eq_true c54
             clear c54
             by_cases c55 : (ji53) < (t209.length : Int)
             ·rw [if_pos c55] at H
              have c55b0 : decide ((ji53) < (t209.length : Int)) = true := decide_eq_true c55
              clear c55
              replace H := Option.bind_eq_some_iff.mp H
              obtain ⟨⟨t219, t220⟩, A560, H⟩ := H
              replace H : (some ((wrap64 (((rd_T42 t209 (ji53)).f0) + 1)) == t219)) = some r := H
              have A56 := Aside0.mk A560
              clear A560
              obtain rfl := Option.some.inj H
              try go_wp2_with (first | ((with_reducible refine gate_callee (f := 20) rfl ?_); refine goesL_ (some 75) rfl rfl Try.func20 (by kernel_rfl) rfl #[.pointer (some ⟨g188, 0, none⟩)] rfl (by (try simp only [List.map_toArray, List.map_cons, List.map_nil]); first | done | rfl | (simp only [List.length_drop, List.length_take]; rfl)) ?_; (with_reducible refine (collect_Collector_Records.calls g188 x189000_1 t209 t212 w _ ?side1 ?side2 A38.out).mono ?_); (case side1 => repeat (first | (with_reducible first | exact HI188.out | apply IsS58.alloc | apply IsS58.drewN | apply IsS58.drew | apply IsS58.set_0) | exact HI188.out)); (case side2 => repeat (first | (with_reducible first | exact HB.out | apply below_alloc | apply pw_below_drewN | apply below_drew1 | refine below_set ?_ (IsS58.ge HI188.out)) | exact HB.out)); rintro e w57 ⟨v210, rfl, ho0, hi, hb, hk⟩; refine ⟨_, rfl, ?_⟩; have n0_ := Aside0.mk (Kd.R_lower ho0 (below_size (by repeat (first | (with_reducible first | exact HB.out | apply below_alloc | apply pw_below_drewN | apply below_drew1 | refine below_set ?_ (IsS58.ge HI188.out)) | exact HB.out)))); have n1_ := Aside0.mk (hb); have n2_ := Aside0.mk (hi); clear HB; clear HI188; have HO211 := n0_; have HB := n1_; have HI188 := n2_; clear n0_ n1_ n2_; (try clear hb); (try clear hb2); (try clear hk); (try clear hi); (try clear ho0)))
              have n0_ := Aside0.mk (Kd.R_drew HO211.out)
              have n1_ := Aside0.mk (IsS58.drew HI188.out)
              have n2_ := Aside0.mk (below_drew1 HB.out)
              clear HO211
              clear HI188
              clear HB
              have HO211 := n0_
              have HI188 := n1_
              have HB := n2_
              clear n0_ n1_ n2_
              obtain ⟨Ao59, co59, eo59⟩ := Kd.R_slice HO211.out
              (first | subst eo59 | (injection eo59 with f1_ f2_ f3_; have f4_ := f1_.symm; have f5_ := f3_.symm; clear f1_ f2_ f3_; subst f4_; subst f5_))
              have p216 : 0 ≤ (0 : Int) := (by omega)
              have q216 : 0 < (t209.length : Int) := of_decide_eq_true (by first | (with_reducible assumption) | assumption)
              obtain ⟨ad216, e216, hx216_0, hx216_1, hx216_2, hx216_3, hx216_4, hx216_5⟩ := at_T42 (Kd.R_reads' HO211.out).2.2 0 p216 q216
              cases e216
              have qi216 : (0 < t209.length) = True := eq_true (by omega)
              (try rw [show ((0 : Int)).toNat = 0 from rfl] at hx216_0)
              (try rw [show 0 * 6 = 0 from rfl] at hx216_0)
              (try rw [Addr.add_zero'] at hx216_0)
              (try rw [show ((0 : Int)).toNat = 0 from rfl] at hx216_1)
              (try rw [show 0 * 6 = 0 from rfl] at hx216_1)
              (try rw [Addr.add_zero'] at hx216_1)
              (try rw [show ((0 : Int)).toNat = 0 from rfl] at hx216_2)
              (try rw [show 0 * 6 = 0 from rfl] at hx216_2)
              (try rw [Addr.add_zero'] at hx216_2)
              (try rw [show ((0 : Int)).toNat = 0 from rfl] at hx216_3)
              (try rw [show 0 * 6 = 0 from rfl] at hx216_3)
              (try rw [Addr.add_zero'] at hx216_3)
              (try rw [show ((0 : Int)).toNat = 0 from rfl] at hx216_4)
              (try rw [show 0 * 6 = 0 from rfl] at hx216_4)
              (try rw [Addr.add_zero'] at hx216_4)
              (try rw [show ((0 : Int)).toNat = 0 from rfl] at hx216_5)
              (try rw [show 0 * 6 = 0 from rfl] at hx216_5)
              (try rw [Addr.add_zero'] at hx216_5)
              replace p216 := eq_true p216
              replace q216 := eq_true q216
              have p218 : 0 ≤ ((ji53) : Int) := of_decide_eq_true (by first | (with_reducible assumption) | assumption)
              have q218 : (ji53) < (t209.length : Int) := of_decide_eq_true (by first | (with_reducible assumption) | assumption)
              obtain ⟨ad218, e218, hx218_0, hx218_1, hx218_2, hx218_3, hx218_4, hx218_5⟩ := at_T42 (Kd.R_reads' HO211.out).2.2 (ji53) p218 q218
              obtain rfl : ad216 = ad218 := (by injection e218)
              replace p218 := eq_true p218
              replace q218 := eq_true q218
              refine start_ (n := 39) (S := fun w' => w'.cell? ad216 = some (.int .i64 ((rd_T42 t209 0).f0)) ∧ w'.cell? ⟨ad216.block, ad216.off + 1, none⟩ = some (.int .i64 ((rd_T42 t209 0).f1)) ∧ w'.cell? ⟨ad216.block, ad216.off + 2, none⟩ = some (.int .i64 ((rd_T42 t209 0).f2.f0)) ∧ w'.cell? ⟨ad216.block, ad216.off + 3, none⟩ = some (.int .i64 ((rd_T42 t209 0).f2.f1)) ∧ w'.cell? ⟨ad216.block, ad216.off + 4, none⟩ = some (.int .i64 ((rd_T42 t209 0).f3)) ∧ w'.cell? ⟨ad216.block, ad216.off + 5, none⟩ = some (.int .i64 ((rd_T42 t209 0).f4)) ∧ w'.cell? (ad216.add (((ji53)).toNat * 6)) = some (.int .i64 ((rd_T42 t209 (ji53)).f0)) ∧ w'.cell? ⟨(ad216.add (((ji53)).toNat * 6)).block, (ad216.add (((ji53)).toNat * 6)).off + 1, none⟩ = some (.int .i64 ((rd_T42 t209 (ji53)).f1)) ∧ w'.cell? ⟨(ad216.add (((ji53)).toNat * 6)).block, (ad216.add (((ji53)).toNat * 6)).off + 2, none⟩ = some (.int .i64 ((rd_T42 t209 (ji53)).f2.f0)) ∧ w'.cell? ⟨(ad216.add (((ji53)).toNat * 6)).block, (ad216.add (((ji53)).toNat * 6)).off + 3, none⟩ = some (.int .i64 ((rd_T42 t209 (ji53)).f2.f1)) ∧ w'.cell? ⟨(ad216.add (((ji53)).toNat * 6)).block, (ad216.add (((ji53)).toNat * 6)).off + 4, none⟩ = some (.int .i64 ((rd_T42 t209 (ji53)).f3)) ∧ w'.cell? ⟨(ad216.add (((ji53)).toNat * 6)).block, (ad216.add (((ji53)).toNat * 6)).off + 5, none⟩ = some (.int .i64 ((rd_T42 t209 (ji53)).f4))) (ds := []) #[false, false, false, false, false, false, false, false, false, false, false, false, false, false, false, false, false, false, false, false, false, false, false, false, false, false, false, false, false, false, false, false, false, false, false, false, false, false, false] (by kernel_rfl) rfl rfl ⟨hx216_0, hx216_1, hx216_2, hx216_3, hx216_4, hx216_5, hx218_0, hx218_1, hx218_2, hx218_3, hx218_4, hx218_5⟩ (fun hHeld => ?_); refine with_tabW plenumlaw42_CollectSound.tab17 plenumlaw42_CollectSound.bits17 (fun HT_ HW_ => ?_)
              generalize w57.drew = w58 at HO211 HI188 HB hx216_0 hx216_1 hx216_2 hx216_3 hx216_4 hx216_5 hx218_0 hx218_1 hx218_2 hx218_3 hx218_4 hx218_5 hHeld ⊢
              refine pure_ (i := 0) (N := some 76) (v := ?_) (a' := ?_) #[true, false, false, false, false, false, false, false, false, false, false, false, false, false, false, false, false, false, false, false, false, false, false, false, false, false, false, false, false, false, false, false, false, false, false, false, false, false, false] rfl rfl (any_of HT_.out (by kernel_rfl)) (fun _ _ _ h => h) (Or.inl ⟨by rfl, ?_⟩) ?_ ?_
              rotate_left
              ·intro w'
               go_simp
               with_reducible rfl
              rotate_left
              ·simp only [Act.put, List.setIfInBounds_toArray, List.set_cons_zero, List.set_cons_succ, i64_w, i32_w]
               rfl
              refine one_ (i := 1) (N := some 77) #[true, true, false, false, false, false, false, false, false, false, false, false, false, false, false, false, false, false, false, false, false, false, false, false, false, false, false, false, false, false, false, false, false, false, false, false, false, false, false] rfl rfl (one_of HT_.out (by kernel_rfl)) (by decide) (fun K hK => ?_)
              refine goes_ Try.func21 (by kernel_rfl) rfl #[.slice (some ad216) t209.length co59] (by rfl) rfl rfl (by (try simp only [List.map_toArray, List.map_cons, List.map_nil]); first | done | rfl | (simp only [List.length_drop, List.length_take]; rfl)) ?_
              with_reducible refine (collect_Check.calls k1 _ _ t209 t213 _ ?side1 ?side2 A39.out).mono ?_
              (case side1 => repeat (first | exact (Kd.R_reads' HO211.out).2.2 | (with_reducible refine Kd.C_alloc ?_ _) | (with_reducible refine Kd.C_drewN ?_ _) | (with_reducible refine Kd.C_drew ?_)))
              (case side2 => exact (Kd.R_reads' HO211.out).2.1)
              rintro e w60 ⟨rfl, hb⟩
              have HS0_ := (hb.cell (World.block_lt_of_cell? _ _ (hHeld.1))).trans (hHeld.1)
              have HS1_ := (hb.cell (World.block_lt_of_cell? _ _ (hHeld.2.1))).trans (hHeld.2.1)
              have HS2_ := (hb.cell (World.block_lt_of_cell? _ _ (hHeld.2.2.1))).trans (hHeld.2.2.1)
              have HS3_ := (hb.cell (World.block_lt_of_cell? _ _ (hHeld.2.2.2.1))).trans (hHeld.2.2.2.1)
              have HS4_ := (hb.cell (World.block_lt_of_cell? _ _ (hHeld.2.2.2.2.1))).trans (hHeld.2.2.2.2.1)
              have HS5_ := (hb.cell (World.block_lt_of_cell? _ _ (hHeld.2.2.2.2.2.1))).trans (hHeld.2.2.2.2.2.1)
              have HS6_ := (hb.cell (World.block_lt_of_cell? _ _ (hHeld.2.2.2.2.2.2.1))).trans (hHeld.2.2.2.2.2.2.1)
              have HS7_ := (hb.cell (World.block_lt_of_cell? _ _ (hHeld.2.2.2.2.2.2.2.1))).trans (hHeld.2.2.2.2.2.2.2.1)
              have HS8_ := (hb.cell (World.block_lt_of_cell? _ _ (hHeld.2.2.2.2.2.2.2.2.1))).trans (hHeld.2.2.2.2.2.2.2.2.1)
              have HS9_ := (hb.cell (World.block_lt_of_cell? _ _ (hHeld.2.2.2.2.2.2.2.2.2.1))).trans (hHeld.2.2.2.2.2.2.2.2.2.1)
              have HS10_ := (hb.cell (World.block_lt_of_cell? _ _ (hHeld.2.2.2.2.2.2.2.2.2.2.1))).trans (hHeld.2.2.2.2.2.2.2.2.2.2.1)
              have HS11_ := (hb.cell (World.block_lt_of_cell? _ _ (hHeld.2.2.2.2.2.2.2.2.2.2.2))).trans (hHeld.2.2.2.2.2.2.2.2.2.2.2)
              refine ⟨_, rfl, ?_⟩
              have n0_ := Aside0.mk (Kd.R_below (by (with_reducible repeat (first | apply Kd.R_alloc | apply Kd.R_drewN | apply Kd.R_drew)); exact HO211.out) hb)
              have n1_ := Aside0.mk (IsS58.below (by repeat (first | (with_reducible first | exact HI188.out | apply IsS58.alloc | apply IsS58.drewN | apply IsS58.drew | apply IsS58.set_0) | exact HI188.out)) hb)
              have n2_ := Aside0.mk (below_step (by repeat (first | (with_reducible first | exact HB.out | apply below_alloc | apply pw_below_drewN | apply below_drew1 | refine below_set ?_ (IsS58.ge HI188.out)) | exact HB.out)) hb)
              clear HO211
              clear HI188
              clear HB
              have HO211 := n0_
              have HI188 := n1_
              have HB := n2_
              clear n0_ n1_ n2_
              (try clear hb)
              (try clear hb2)
              (try clear hk)
              (try clear hi)
              refine hK.out _ _ ⟨HS0_, HS1_, HS2_, HS3_, HS4_, HS5_, HS6_, HS7_, HS8_, HS9_, HS10_, HS11_⟩ (fun hHeld => ?_)
              clear hK K
              refine norm_ (a' := ?_) ?_ ?_
              rotate_left
              ·show Act.put _ (some 77) _ = _
               simp only [Act.put, List.setIfInBounds_toArray, List.set_cons_zero, List.set_cons_succ, i64_w, i32_w]
               rfl
              refine pure_ (i := 2) (N := some 78) (v := ?_) (a' := ?_) #[true, true, true, false, false, false, false, false, false, false, false, false, false, false, false, false, false, false, false, false, false, false, false, false, false, false, false, false, false, false, false, false, false, false, false, false, false, false, false] rfl rfl (any_of HT_.out (by kernel_rfl)) (fun _ _ _ h => h) (Or.inl ⟨by rfl, ?_⟩) ?_ ?_
              rotate_left
              ·intro w'
               go_simp
               with_reducible rfl
              rotate_left
              ·simp only [Act.put, List.setIfInBounds_toArray, List.set_cons_zero, List.set_cons_succ, i64_w, i32_w]
               rfl
              refine pure_ (i := 3) (N := some 79) (v := ?_) (a' := ?_) #[true, true, true, true, false, false, false, false, false, false, false, false, false, false, false, false, false, false, false, false, false, false, false, false, false, false, false, false, false, false, false, false, false, false, false, false, false, false, false] rfl rfl (any_of HT_.out (by kernel_rfl)) (fun _ _ _ h => h) (Or.inl ⟨by rfl, ?_⟩) ?_ ?_
              rotate_left
              ·intro w'
               go_simp
               with_reducible rfl
              rotate_left
              ·simp only [Act.put, List.setIfInBounds_toArray, List.set_cons_zero, List.set_cons_succ, i64_w, i32_w]
               rfl
              refine pure_ (i := 4) (N := some 80) (v := ?_) (a' := ?_) #[true, true, true, true, true, false, false, false, false, false, false, false, false, false, false, false, false, false, false, false, false, false, false, false, false, false, false, false, false, false, false, false, false, false, false, false, false, false, false] rfl rfl (any_of HT_.out (by kernel_rfl)) (fun _ _ _ h => h) (Or.inl ⟨by rfl, ?_⟩) ?_ ?_
              rotate_left
              ·intro w'
               go_simp
               with_reducible rfl
              rotate_left
              ·simp only [Act.put, List.setIfInBounds_toArray, List.set_cons_zero, List.set_cons_succ, i64_w, i32_w]
               rfl
              refine pure_ (i := 5) (N := some 81) (v := ?_) (a' := ?_) #[true, true, true, true, true, true, false, false, false, false, false, false, false, false, false, false, false, false, false, false, false, false, false, false, false, false, false, false, false, false, false, false, false, false, false, false, false, false, false] rfl rfl (any_of HT_.out (by kernel_rfl)) (fun _ _ _ h => h) (Or.inl ⟨by rfl, ?_⟩) ?_ ?_
              rotate_left
              ·intro w'
               go_simp
               with_reducible rfl
              rotate_left
              ·simp only [Act.put, List.setIfInBounds_toArray, List.set_cons_zero, List.set_cons_succ, i64_w, i32_w]
               rfl
              refine pure_ (i := 6) (N := some 82) (v := ?_) (a' := ?_) #[true, true, true, true, true, true, true, false, false, false, false, false, false, false, false, false, false, false, false, false, false, false, false, false, false, false, false, false, false, false, false, false, false, false, false, false, false, false, false] rfl rfl (any_of HT_.out (by kernel_rfl)) (fun _ _ _ h => h) (Or.inl ⟨by rfl, ?_⟩) ?_ ?_
              rotate_left
              ·intro w'
               go_simp
               with_reducible rfl
              rotate_left
              ·simp only [Act.put, List.setIfInBounds_toArray, List.set_cons_zero, List.set_cons_succ, i64_w, i32_w]
               rfl
              refine pure_ (i := 7) (N := some 83) (v := ?_) (a' := ?_) #[true, true, true, true, true, true, true, true, false, false, false, false, false, false, false, false, false, false, false, false, false, false, false, false, false, false, false, false, false, false, false, false, false, false, false, false, false, false, false] rfl rfl (any_of HT_.out (by kernel_rfl)) (fun _ _ _ h => h) (Or.inl ⟨by rfl, ?_⟩) ?_ ?_
              rotate_left
              ·intro w'
               go_simp
               with_reducible rfl
              rotate_left
              ·simp only [Act.put, List.setIfInBounds_toArray, List.set_cons_zero, List.set_cons_succ, i64_w, i32_w]
               rfl
              refine pure_ (i := 8) (N := some 84) (v := ?_) (a' := ?_) #[true, true, true, true, true, true, true, true, true, false, false, false, false, false, false, false, false, false, false, false, false, false, false, false, false, false, false, false, false, false, false, false, false, false, false, false, false, false, false] rfl rfl (any_of HT_.out (by kernel_rfl)) (fun _ _ _ h => h) (Or.inl ⟨by rfl, ?_⟩) ?_ ?_
              rotate_left
              ·intro w'
               go_simp
               with_reducible rfl
              rotate_left
              ·simp only [Act.put, List.setIfInBounds_toArray, List.set_cons_zero, List.set_cons_succ, i64_w, i32_w]
               rfl
              refine one_ (i := 9) (N := some 85) #[true, true, true, true, true, true, true, true, true, true, false, false, false, false, false, false, false, false, false, false, false, false, false, false, false, false, false, false, false, false, false, false, false, false, false, false, false, false, false] rfl rfl (one_of HT_.out (by kernel_rfl)) (by decide) (fun K hK => ?_)
              refine goes_ Try.func15 (by kernel_rfl) rfl #[.pointer (some ⟨g188, 0, none⟩)] (by rfl) rfl rfl (by (try simp only [List.map_toArray, List.map_cons, List.map_nil]); first | done | rfl | (simp only [List.length_drop, List.length_take]; rfl)) ?_
              with_reducible refine (collect_Collector_From.calls g188 t212 t214 t215 w _ ?side1 ?side2 A42.out).mono ?_
              (case side1 => repeat (first | (with_reducible first | exact HI188.out | apply IsS58.alloc | apply IsS58.drewN | apply IsS58.drew | apply IsS58.set_0) | exact HI188.out))
              (case side2 => repeat (first | (with_reducible first | exact HB.out | apply below_alloc | apply pw_below_drewN | apply below_drew1 | refine below_set ?_ (IsS58.ge HI188.out)) | exact HB.out))
              rintro e w61 ⟨rfl, hi, hb, hk⟩
              have HS0_ := keep_cell hk (hHeld.1) (by first | (rw [add_block]; exact Kd.own_blk (IsS58.own_ne HI188.out HO211.out (by decide))) | (show (Addr.add _ _).block ≠ _; rw [add_block]; exact Kd.own_blk (IsS58.own_ne HI188.out HO211.out (by decide))) | exact Kd.own_blk (IsS58.own_ne HI188.out HO211.out (by decide)) | (have e_ := Kd.own_blk (IsS58.own_ne HI188.out HO211.out (by decide)); exact e_))
              have HS1_ := keep_cell hk (hHeld.2.1) (by first | (rw [add_block]; exact Kd.own_blk (IsS58.own_ne HI188.out HO211.out (by decide))) | (show (Addr.add _ _).block ≠ _; rw [add_block]; exact Kd.own_blk (IsS58.own_ne HI188.out HO211.out (by decide))) | exact Kd.own_blk (IsS58.own_ne HI188.out HO211.out (by decide)) | (have e_ := Kd.own_blk (IsS58.own_ne HI188.out HO211.out (by decide)); exact e_))
              have HS2_ := keep_cell hk (hHeld.2.2.1) (by first | (rw [add_block]; exact Kd.own_blk (IsS58.own_ne HI188.out HO211.out (by decide))) | (show (Addr.add _ _).block ≠ _; rw [add_block]; exact Kd.own_blk (IsS58.own_ne HI188.out HO211.out (by decide))) | exact Kd.own_blk (IsS58.own_ne HI188.out HO211.out (by decide)) | (have e_ := Kd.own_blk (IsS58.own_ne HI188.out HO211.out (by decide)); exact e_))
              have HS3_ := keep_cell hk (hHeld.2.2.2.1) (by first | (rw [add_block]; exact Kd.own_blk (IsS58.own_ne HI188.out HO211.out (by decide))) | (show (Addr.add _ _).block ≠ _; rw [add_block]; exact Kd.own_blk (IsS58.own_ne HI188.out HO211.out (by decide))) | exact Kd.own_blk (IsS58.own_ne HI188.out HO211.out (by decide)) | (have e_ := Kd.own_blk (IsS58.own_ne HI188.out HO211.out (by decide)); exact e_))
              have HS4_ := keep_cell hk (hHeld.2.2.2.2.1) (by first | (rw [add_block]; exact Kd.own_blk (IsS58.own_ne HI188.out HO211.out (by decide))) | (show (Addr.add _ _).block ≠ _; rw [add_block]; exact Kd.own_blk (IsS58.own_ne HI188.out HO211.out (by decide))) | exact Kd.own_blk (IsS58.own_ne HI188.out HO211.out (by decide)) | (have e_ := Kd.own_blk (IsS58.own_ne HI188.out HO211.out (by decide)); exact e_))
              have HS5_ := keep_cell hk (hHeld.2.2.2.2.2.1) (by first | (rw [add_block]; exact Kd.own_blk (IsS58.own_ne HI188.out HO211.out (by decide))) | (show (Addr.add _ _).block ≠ _; rw [add_block]; exact Kd.own_blk (IsS58.own_ne HI188.out HO211.out (by decide))) | exact Kd.own_blk (IsS58.own_ne HI188.out HO211.out (by decide)) | (have e_ := Kd.own_blk (IsS58.own_ne HI188.out HO211.out (by decide)); exact e_))
              have HS6_ := keep_cell hk (hHeld.2.2.2.2.2.2.1) (by first | (rw [add_block]; exact Kd.own_blk (IsS58.own_ne HI188.out HO211.out (by decide))) | (show (Addr.add _ _).block ≠ _; rw [add_block]; exact Kd.own_blk (IsS58.own_ne HI188.out HO211.out (by decide))) | exact Kd.own_blk (IsS58.own_ne HI188.out HO211.out (by decide)) | (have e_ := Kd.own_blk (IsS58.own_ne HI188.out HO211.out (by decide)); exact e_))
              have HS7_ := keep_cell hk (hHeld.2.2.2.2.2.2.2.1) (by first | (rw [add_block]; exact Kd.own_blk (IsS58.own_ne HI188.out HO211.out (by decide))) | (show (Addr.add _ _).block ≠ _; rw [add_block]; exact Kd.own_blk (IsS58.own_ne HI188.out HO211.out (by decide))) | exact Kd.own_blk (IsS58.own_ne HI188.out HO211.out (by decide)) | (have e_ := Kd.own_blk (IsS58.own_ne HI188.out HO211.out (by decide)); exact e_))
              have HS8_ := keep_cell hk (hHeld.2.2.2.2.2.2.2.2.1) (by first | (rw [add_block]; exact Kd.own_blk (IsS58.own_ne HI188.out HO211.out (by decide))) | (show (Addr.add _ _).block ≠ _; rw [add_block]; exact Kd.own_blk (IsS58.own_ne HI188.out HO211.out (by decide))) | exact Kd.own_blk (IsS58.own_ne HI188.out HO211.out (by decide)) | (have e_ := Kd.own_blk (IsS58.own_ne HI188.out HO211.out (by decide)); exact e_))
              have HS9_ := keep_cell hk (hHeld.2.2.2.2.2.2.2.2.2.1) (by first | (rw [add_block]; exact Kd.own_blk (IsS58.own_ne HI188.out HO211.out (by decide))) | (show (Addr.add _ _).block ≠ _; rw [add_block]; exact Kd.own_blk (IsS58.own_ne HI188.out HO211.out (by decide))) | exact Kd.own_blk (IsS58.own_ne HI188.out HO211.out (by decide)) | (have e_ := Kd.own_blk (IsS58.own_ne HI188.out HO211.out (by decide)); exact e_))
              have HS10_ := keep_cell hk (hHeld.2.2.2.2.2.2.2.2.2.2.1) (by first | (rw [add_block]; exact Kd.own_blk (IsS58.own_ne HI188.out HO211.out (by decide))) | (show (Addr.add _ _).block ≠ _; rw [add_block]; exact Kd.own_blk (IsS58.own_ne HI188.out HO211.out (by decide))) | exact Kd.own_blk (IsS58.own_ne HI188.out HO211.out (by decide)) | (have e_ := Kd.own_blk (IsS58.own_ne HI188.out HO211.out (by decide)); exact e_))
              have HS11_ := keep_cell hk (hHeld.2.2.2.2.2.2.2.2.2.2.2) (by first | (rw [add_block]; exact Kd.own_blk (IsS58.own_ne HI188.out HO211.out (by decide))) | (show (Addr.add _ _).block ≠ _; rw [add_block]; exact Kd.own_blk (IsS58.own_ne HI188.out HO211.out (by decide))) | exact Kd.own_blk (IsS58.own_ne HI188.out HO211.out (by decide)) | (have e_ := Kd.own_blk (IsS58.own_ne HI188.out HO211.out (by decide)); exact e_))
              refine ⟨_, rfl, ?_⟩
              have n0_ := Aside0.mk (Kd.R_mono (Kd.R_keep (IsS58.apart (show IsS58 w _ g188 t212 from by repeat (first | (with_reducible first | exact HI188.out | apply IsS58.alloc | apply IsS58.drewN | apply IsS58.drew | apply IsS58.set_0) | exact HI188.out)) (by (with_reducible repeat (first | apply Kd.R_alloc | apply Kd.R_drewN | apply Kd.R_drew)); exact HO211.out) (by decide)) hk (fun _ h => h.2)) (fun _ h => h.1))
              have n1_ := Aside0.mk (hb)
              have n2_ := Aside0.mk (hi)
              clear HO211
              clear HB
              clear HI188
              have HO211 := n0_
              have HB := n1_
              have HI188 := n2_
              clear n0_ n1_ n2_
              (try clear hb)
              (try clear hb2)
              (try clear hk)
              (try clear hi)
              refine hK.out _ _ ⟨HS0_, HS1_, HS2_, HS3_, HS4_, HS5_, HS6_, HS7_, HS8_, HS9_, HS10_, HS11_⟩ (fun hHeld => ?_)
              clear hK K
              refine norm_ (a' := ?_) ?_ ?_
              rotate_left
              ·show Act.put _ (some 85) _ = _
               simp only [Act.put, List.setIfInBounds_toArray, List.set_cons_zero, List.set_cons_succ, i64_w, i32_w]
               rfl
              refine pure_ (i := 10) (N := some 86) (v := ?_) (a' := ?_) #[true, true, true, true, true, true, true, true, true, true, true, false, false, false, false, false, false, false, false, false, false, false, false, false, false, false, false, false, false, false, false, false, false, false, false, false, false, false, false] rfl rfl (any_of HT_.out (by kernel_rfl)) (fun _ _ _ h => h) (Or.inl ⟨by rfl, ?_⟩) ?_ ?_
              rotate_left
              ·intro w'
               go_simp
               with_reducible rfl
              rotate_left
              ·simp only [Act.put, List.setIfInBounds_toArray, List.set_cons_zero, List.set_cons_succ, i64_w, i32_w]
               rfl
              refine pure_ (i := 11) (N := some 87) (v := ?_) (a' := ?_) #[true, true, true, true, true, true, true, true, true, true, true, true, false, false, false, false, false, false, false, false, false, false, false, false, false, false, false, false, false, false, false, false, false, false, false, false, false, false, false] rfl rfl (any_of HT_.out (by kernel_rfl)) (fun _ _ _ h => h) (Or.inl ⟨by rfl, ?_⟩) ?_ ?_
              rotate_left
              ·intro w'
               go_simp
               with_reducible rfl
              rotate_left
              ·simp only [Act.put, List.setIfInBounds_toArray, List.set_cons_zero, List.set_cons_succ, i64_w, i32_w]
               rfl
              refine pure_ (i := 12) (N := some 88) (v := ?_) (a' := ?_) #[true, true, true, true, true, true, true, true, true, true, true, true, true, false, false, false, false, false, false, false, false, false, false, false, false, false, false, false, false, false, false, false, false, false, false, false, false, false, false] rfl rfl (any_of HT_.out (by kernel_rfl)) (fun _ _ _ h => h) (Or.inl ⟨by rfl, ?_⟩) ?_ ?_
              rotate_left
              ·intro w'
               go_simp
               with_reducible rfl
              rotate_left
              ·simp only [Act.put, List.setIfInBounds_toArray, List.set_cons_zero, List.set_cons_succ, i64_w, i32_w]
               rfl
              refine pure_ (i := 13) (N := some 89) (v := ?_) (a' := ?_) #[true, true, true, true, true, true, true, true, true, true, true, true, true, true, false, false, false, false, false, false, false, false, false, false, false, false, false, false, false, false, false, false, false, false, false, false, false, false, false] rfl rfl (any_of HT_.out (by kernel_rfl)) (fun _ _ _ h => h) (Or.inl ⟨by rfl, ?_⟩) ?_ ?_
              rotate_left
              ·intro w'
               go_simp
               with_reducible rfl
              rotate_left
              ·simp only [Act.put, List.setIfInBounds_toArray, List.set_cons_zero, List.set_cons_succ, i64_w, i32_w]
               rfl
              refine pure_ (i := 14) (N := some 90) (v := ?_) (a' := ?_) #[true, true, true, true, true, true, true, true, true, true, true, true, true, true, true, false, false, false, false, false, false, false, false, false, false, false, false, false, false, false, false, false, false, false, false, false, false, false, false] rfl rfl (any_of HT_.out (by kernel_rfl)) (fun _ _ _ h => h) (Or.inl ⟨by rfl, ?_⟩) ?_ ?_
              rotate_left
              ·intro w'
               go_simp
               with_reducible rfl
              rotate_left
              ·simp only [Act.put, List.setIfInBounds_toArray, List.set_cons_zero, List.set_cons_succ, i64_w, i32_w]
               rfl
              refine pure_ (i := 15) (N := some 91) (v := ?_) (a' := ?_) #[true, true, true, true, true, true, true, true, true, true, true, true, true, true, true, true, false, false, false, false, false, false, false, false, false, false, false, false, false, false, false, false, false, false, false, false, false, false, false] rfl rfl (any_of HT_.out (by kernel_rfl)) (fun _ _ _ h => h) (Or.inl ⟨by rfl, ?_⟩) ?_ ?_
              rotate_left
              ·intro w'
               go_simp
               with_reducible rfl
              rotate_left
              ·simp only [Act.put, List.setIfInBounds_toArray, List.set_cons_zero, List.set_cons_succ, i64_w, i32_w]
               rfl
              refine pure_ (i := 16) (N := some 92) (v := ?_) (a' := ?_) #[true, true, true, true, true, true, true, true, true, true, true, true, true, true, true, true, true, false, false, false, false, false, false, false, false, false, false, false, false, false, false, false, false, false, false, false, false, false, false] rfl rfl (any_of HT_.out (by kernel_rfl)) (fun _ _ _ h => h) (Or.inl ⟨by rfl, ?_⟩) ?_ ?_
              rotate_left
              ·intro w'
               go_simp
               with_reducible rfl
              rotate_left
              ·simp only [Act.put, List.setIfInBounds_toArray, List.set_cons_zero, List.set_cons_succ, i64_w, i32_w]
               rfl
              refine pure_ (i := 17) (N := some 93) (v := ?_) (a' := ?_) #[true, true, true, true, true, true, true, true, true, true, true, true, true, true, true, true, true, true, false, false, false, false, false, false, false, false, false, false, false, false, false, false, false, false, false, false, false, false, false] rfl rfl (any_of HT_.out (by kernel_rfl)) (fun _ _ _ h => h) (Or.inl ⟨by rfl, ?_⟩) ?_ ?_
              rotate_left
              ·intro w'
               go_simp
               with_reducible rfl
              rotate_left
              ·simp only [Act.put, List.setIfInBounds_toArray, List.set_cons_zero, List.set_cons_succ, i64_w, i32_w]
               rfl
              refine pure_ (i := 18) (N := some 94) (v := ?_) (a' := ?_) #[true, true, true, true, true, true, true, true, true, true, true, true, true, true, true, true, true, true, true, false, false, false, false, false, false, false, false, false, false, false, false, false, false, false, false, false, false, false, false] rfl rfl (any_of HT_.out (by kernel_rfl)) (fun _ _ _ h => h) (Or.inl ⟨by rfl, ?_⟩) ?_ ?_
              rotate_left
              ·intro w'
               go_simp
               with_reducible rfl
              rotate_left
              ·simp only [Act.put, List.setIfInBounds_toArray, List.set_cons_zero, List.set_cons_succ, i64_w, i32_w]
               rfl
              refine take_ (i := 19) (N := some 95) (v := ?_) (a' := ?_) #[true, true, true, true, true, true, true, true, true, true, true, true, true, true, true, true, true, true, true, true, false, false, false, false, false, false, false, false, false, false, false, false, false, false, false, false, false, false, false] rfl rfl (take_ofW HT_.out HW_.out (by kernel_rfl)) (fun _ _ _ h => h) (Or.inl ⟨by rfl, ?_⟩) hHeld ?_ ?_
              rotate_left
              ·rintro w' ⟨s0, s1, s2, s3, s4, s5, s6, s7, s8, s9, s10, s11⟩
               go_simp
               with_reducible rfl
              rotate_left
              ·simp only [Act.put, List.setIfInBounds_toArray, List.set_cons_zero, List.set_cons_succ, i64_w, i32_w]
               rfl
              refine one_ (i := 20) (N := some 96) #[true, true, true, true, true, true, true, true, true, true, true, true, true, true, true, true, true, true, true, true, true, false, false, false, false, false, false, false, false, false, false, false, false, false, false, false, false, false, false] rfl rfl (one_of HT_.out (by kernel_rfl)) (by decide) (fun K hK => ?_)
              refine goes_ Try.func22 (by kernel_rfl) rfl #[.agg #[.int .i64 ((rd_T42 t209 0).f0), .int .i64 ((rd_T42 t209 0).f1), .int .i64 ((rd_T42 t209 0).f2.f0), .int .i64 ((rd_T42 t209 0).f2.f1), .int .i64 ((rd_T42 t209 0).f3), .int .i64 ((rd_T42 t209 0).f4)]] (by rfl) rfl rfl (by (try simp only [List.map_toArray, List.map_cons, List.map_nil]); first | done | rfl | (simp only [List.length_drop, List.length_take]; rfl)) ?_
              with_reducible refine (plenumref42_First.calls ((rd_T42 t209 0).f0) ((rd_T42 t209 0).f1) ((rd_T42 t209 0).f2.f0) ((rd_T42 t209 0).f2.f1) ((rd_T42 t209 0).f3) ((rd_T42 t209 0).f4) t217 _ A51.out).mono ?_
              rintro e w62 ⟨rfl, hb⟩
              have HS0_ := (hb.cell (World.block_lt_of_cell? _ _ (hHeld.1))).trans (hHeld.1)
              have HS1_ := (hb.cell (World.block_lt_of_cell? _ _ (hHeld.2.1))).trans (hHeld.2.1)
              have HS2_ := (hb.cell (World.block_lt_of_cell? _ _ (hHeld.2.2.1))).trans (hHeld.2.2.1)
              have HS3_ := (hb.cell (World.block_lt_of_cell? _ _ (hHeld.2.2.2.1))).trans (hHeld.2.2.2.1)
              have HS4_ := (hb.cell (World.block_lt_of_cell? _ _ (hHeld.2.2.2.2.1))).trans (hHeld.2.2.2.2.1)
              have HS5_ := (hb.cell (World.block_lt_of_cell? _ _ (hHeld.2.2.2.2.2.1))).trans (hHeld.2.2.2.2.2.1)
              have HS6_ := (hb.cell (World.block_lt_of_cell? _ _ (hHeld.2.2.2.2.2.2.1))).trans (hHeld.2.2.2.2.2.2.1)
              have HS7_ := (hb.cell (World.block_lt_of_cell? _ _ (hHeld.2.2.2.2.2.2.2.1))).trans (hHeld.2.2.2.2.2.2.2.1)
              have HS8_ := (hb.cell (World.block_lt_of_cell? _ _ (hHeld.2.2.2.2.2.2.2.2.1))).trans (hHeld.2.2.2.2.2.2.2.2.1)
              have HS9_ := (hb.cell (World.block_lt_of_cell? _ _ (hHeld.2.2.2.2.2.2.2.2.2.1))).trans (hHeld.2.2.2.2.2.2.2.2.2.1)
              have HS10_ := (hb.cell (World.block_lt_of_cell? _ _ (hHeld.2.2.2.2.2.2.2.2.2.2.1))).trans (hHeld.2.2.2.2.2.2.2.2.2.2.1)
              have HS11_ := (hb.cell (World.block_lt_of_cell? _ _ (hHeld.2.2.2.2.2.2.2.2.2.2.2))).trans (hHeld.2.2.2.2.2.2.2.2.2.2.2)
              refine ⟨_, rfl, ?_⟩
              have n0_ := Aside0.mk (Kd.R_below (by (with_reducible repeat (first | apply Kd.R_alloc | apply Kd.R_drewN | apply Kd.R_drew)); exact HO211.out) hb)
              have n1_ := Aside0.mk (IsS58.below (by repeat (first | (with_reducible first | exact HI188.out | apply IsS58.alloc | apply IsS58.drewN | apply IsS58.drew | apply IsS58.set_0) | exact HI188.out)) hb)
              have n2_ := Aside0.mk (below_step (by repeat (first | (with_reducible first | exact HB.out | apply below_alloc | apply pw_below_drewN | apply below_drew1 | refine below_set ?_ (IsS58.ge HI188.out)) | exact HB.out)) hb)
              clear HO211
              clear HI188
              clear HB
              have HO211 := n0_
              have HI188 := n1_
              have HB := n2_
              clear n0_ n1_ n2_
              (try clear hb)
              (try clear hb2)
              (try clear hk)
              (try clear hi)
              refine hK.out _ _ ⟨HS0_, HS1_, HS2_, HS3_, HS4_, HS5_, HS6_, HS7_, HS8_, HS9_, HS10_, HS11_⟩ (fun hHeld => ?_)
              clear hK K
              refine norm_ (a' := ?_) ?_ ?_
              rotate_left
              ·show Act.put _ (some 96) _ = _
               simp only [Act.put, List.setIfInBounds_toArray, List.set_cons_zero, List.set_cons_succ, i64_w, i32_w]
               rfl
              refine pure_ (i := 21) (N := some 97) (v := ?_) (a' := ?_) #[true, true, true, true, true, true, true, true, true, true, true, true, true, true, true, true, true, true, true, true, true, true, false, false, false, false, false, false, false, false, false, false, false, false, false, false, false, false, false] rfl rfl (any_of HT_.out (by kernel_rfl)) (fun _ _ _ h => h) (Or.inl ⟨by rfl, ?_⟩) ?_ ?_
              rotate_left
              ·intro w'
               go_simp
               with_reducible rfl
              rotate_left
              ·simp only [Act.put, List.setIfInBounds_toArray, List.set_cons_zero, List.set_cons_succ, i64_w, i32_w]
               rfl
              refine pure_ (i := 22) (N := some 98) (v := ?_) (a' := ?_) #[true, true, true, true, true, true, true, true, true, true, true, true, true, true, true, true, true, true, true, true, true, true, true, false, false, false, false, false, false, false, false, false, false, false, false, false, false, false, false] rfl rfl (any_of HT_.out (by kernel_rfl)) (fun _ _ _ h => h) (Or.inl ⟨by rfl, ?_⟩) ?_ ?_
              rotate_left
              ·intro w'
               go_simp
               with_reducible rfl
              rotate_left
              ·simp only [Act.put, List.setIfInBounds_toArray, List.set_cons_zero, List.set_cons_succ, i64_w, i32_w]
               rfl
              refine pure_ (i := 23) (N := some 99) (v := ?_) (a' := ?_) #[true, true, true, true, true, true, true, true, true, true, true, true, true, true, true, true, true, true, true, true, true, true, true, true, false, false, false, false, false, false, false, false, false, false, false, false, false, false, false] rfl rfl (any_of HT_.out (by kernel_rfl)) (fun _ _ _ h => h) (Or.inl ⟨by rfl, ?_⟩) ?_ ?_
              rotate_left
              ·intro w'
               go_simp
               with_reducible rfl
              rotate_left
              ·simp only [Act.put, List.setIfInBounds_toArray, List.set_cons_zero, List.set_cons_succ, i64_w, i32_w]
               rfl
              refine pure_ (i := 24) (N := some 100) (v := ?_) (a' := ?_) #[true, true, true, true, true, true, true, true, true, true, true, true, true, true, true, true, true, true, true, true, true, true, true, true, true, false, false, false, false, false, false, false, false, false, false, false, false, false, false] rfl rfl (any_of HT_.out (by kernel_rfl)) (fun _ _ _ h => h) (Or.inl ⟨by rfl, ?_⟩) ?_ ?_
              rotate_left
              ·intro w'
               go_simp
               with_reducible rfl
              rotate_left
              ·simp only [Act.put, List.setIfInBounds_toArray, List.set_cons_zero, List.set_cons_succ, i64_w, i32_w]
               rfl
              refine pure_ (i := 25) (N := some 101) (v := ?_) (a' := ?_) #[true, true, true, true, true, true, true, true, true, true, true, true, true, true, true, true, true, true, true, true, true, true, true, true, true, true, false, false, false, false, false, false, false, false, false, false, false, false, false] rfl rfl (any_of HT_.out (by kernel_rfl)) (fun _ _ _ h => h) (Or.inl ⟨by rfl, ?_⟩) ?_ ?_
              rotate_left
              ·intro w'
               go_simp
               with_reducible rfl
              rotate_left
              ·simp only [Act.put, List.setIfInBounds_toArray, List.set_cons_zero, List.set_cons_succ, i64_w, i32_w]
               rfl
              refine pure_ (i := 26) (N := some 102) (v := ?_) (a' := ?_) #[true, true, true, true, true, true, true, true, true, true, true, true, true, true, true, true, true, true, true, true, true, true, true, true, true, true, true, false, false, false, false, false, false, false, false, false, false, false, false] rfl rfl (any_of HT_.out (by kernel_rfl)) (fun _ _ _ h => h) (Or.inl ⟨by rfl, ?_⟩) ?_ ?_
              rotate_left
              ·intro w'
               go_simp
               with_reducible rfl
              rotate_left
              ·simp only [Act.put, List.setIfInBounds_toArray, List.set_cons_zero, List.set_cons_succ, i64_w, i32_w]
               rfl
              refine pure_ (i := 27) (N := some 103) (v := ?_) (a' := ?_) #[true, true, true, true, true, true, true, true, true, true, true, true, true, true, true, true, true, true, true, true, true, true, true, true, true, true, true, true, false, false, false, false, false, false, false, false, false, false, false] rfl rfl (any_of HT_.out (by kernel_rfl)) (fun _ _ _ h => h) (Or.inl ⟨by rfl, ?_⟩) ?_ ?_
              rotate_left
              ·intro w'
               go_simp
               with_reducible rfl
              rotate_left
              ·simp only [Act.put, List.setIfInBounds_toArray, List.set_cons_zero, List.set_cons_succ, i64_w, i32_w]
               rfl
              refine pure_ (i := 28) (N := some 104) (v := ?_) (a' := ?_) #[true, true, true, true, true, true, true, true, true, true, true, true, true, true, true, true, true, true, true, true, true, true, true, true, true, true, true, true, true, false, false, false, false, false, false, false, false, false, false] rfl rfl (any_of HT_.out (by kernel_rfl)) (fun _ _ _ h => h) (Or.inl ⟨by rfl, ?_⟩) ?_ ?_
              rotate_left
              ·intro w'
               go_simp
               with_reducible rfl
              rotate_left
              ·simp only [Act.put, List.setIfInBounds_toArray, List.set_cons_zero, List.set_cons_succ, i64_w, i32_w]
               rfl
              refine pure_ (i := 29) (N := some 105) (v := ?_) (a' := ?_) #[true, true, true, true, true, true, true, true, true, true, true, true, true, true, true, true, true, true, true, true, true, true, true, true, true, true, true, true, true, true, false, false, false, false, false, false, false, false, false] rfl rfl (any_of HT_.out (by kernel_rfl)) (fun _ _ _ h => h) (Or.inl ⟨by rfl, ?_⟩) ?_ ?_
              rotate_left
              ·intro w'
               go_simp
               with_reducible rfl
              rotate_left
              ·simp only [Act.put, List.setIfInBounds_toArray, List.set_cons_zero, List.set_cons_succ, i64_w, i32_w]
               rfl
              refine pure_ (i := 32) (N := some 108) (v := ?_) (a' := ?_) #[true, true, true, true, true, true, true, true, true, true, true, true, true, true, true, true, true, true, true, true, true, true, true, true, true, true, true, true, true, true, false, false, true, false, false, false, false, false, false] rfl rfl (any_of HT_.out (by kernel_rfl)) (fun _ _ _ h => h) (Or.inl ⟨by rfl, ?_⟩) ?_ ?_
              rotate_left
              ·intro w'
               go_simp
               with_reducible rfl
              rotate_left
              ·simp only [Act.put, List.setIfInBounds_toArray, List.set_cons_zero, List.set_cons_succ, i64_w, i32_w]
               rfl
              refine take_ (i := 30) (N := some 106) (v := ?_) (a' := ?_) #[true, true, true, true, true, true, true, true, true, true, true, true, true, true, true, true, true, true, true, true, true, true, true, true, true, true, true, true, true, true, true, false, true, false, false, false, false, false, false] rfl rfl (take_ofW HT_.out HW_.out (by kernel_rfl)) (fun _ _ _ h => h) (Or.inl ⟨by rfl, ?_⟩) hHeld ?_ ?_
              rotate_left
              ·rintro w' ⟨s0, s1, s2, s3, s4, s5, s6, s7, s8, s9, s10, s11⟩
               go_simp
               with_reducible rfl
              rotate_left
              ·simp only [Act.put, List.setIfInBounds_toArray, List.set_cons_zero, List.set_cons_succ, i64_w, i32_w]
               rfl
              refine pure_ (i := 31) (N := some 107) (v := ?_) (a' := ?_) #[true, true, true, true, true, true, true, true, true, true, true, true, true, true, true, true, true, true, true, true, true, true, true, true, true, true, true, true, true, true, true, true, true, false, false, false, false, false, false] rfl rfl (any_of HT_.out (by kernel_rfl)) (fun _ _ _ h => h) (Or.inl ⟨by rfl, ?_⟩) ?_ ?_
              rotate_left
              ·intro w'
               go_simp
               with_reducible rfl
              rotate_left
              ·simp only [Act.put, List.setIfInBounds_toArray, List.set_cons_zero, List.set_cons_succ, i64_w, i32_w]
               rfl
              refine one_ (i := 33) (N := some 109) #[true, true, true, true, true, true, true, true, true, true, true, true, true, true, true, true, true, true, true, true, true, true, true, true, true, true, true, true, true, true, true, true, true, true, false, false, false, false, false] rfl rfl (one_of HT_.out (by kernel_rfl)) (by decide) (fun K hK => ?_)
              refine goes_ Try.func15 (by kernel_rfl) rfl #[.pointer (some ⟨g188, 0, none⟩)] (by rfl) rfl rfl (by (try simp only [List.map_toArray, List.map_cons, List.map_nil]); first | done | rfl | (simp only [List.length_drop, List.length_take]; rfl)) ?_
              with_reducible refine (collect_Collector_From.calls g188 t215 t219 t220 w _ ?side1 ?side2 A56.out).mono ?_
              (case side1 => repeat (first | (with_reducible first | exact HI188.out | apply IsS58.alloc | apply IsS58.drewN | apply IsS58.drew | apply IsS58.set_0) | exact HI188.out))
              (case side2 => repeat (first | (with_reducible first | exact HB.out | apply below_alloc | apply pw_below_drewN | apply below_drew1 | refine below_set ?_ (IsS58.ge HI188.out)) | exact HB.out))
              rintro e w63 ⟨rfl, hi, hb, hk⟩
              have HS0_ := keep_cell hk (hHeld.1) (by first | (rw [add_block]; exact Kd.own_blk (IsS58.own_ne HI188.out HO211.out (by decide))) | (show (Addr.add _ _).block ≠ _; rw [add_block]; exact Kd.own_blk (IsS58.own_ne HI188.out HO211.out (by decide))) | exact Kd.own_blk (IsS58.own_ne HI188.out HO211.out (by decide)) | (have e_ := Kd.own_blk (IsS58.own_ne HI188.out HO211.out (by decide)); exact e_))
              have HS1_ := keep_cell hk (hHeld.2.1) (by first | (rw [add_block]; exact Kd.own_blk (IsS58.own_ne HI188.out HO211.out (by decide))) | (show (Addr.add _ _).block ≠ _; rw [add_block]; exact Kd.own_blk (IsS58.own_ne HI188.out HO211.out (by decide))) | exact Kd.own_blk (IsS58.own_ne HI188.out HO211.out (by decide)) | (have e_ := Kd.own_blk (IsS58.own_ne HI188.out HO211.out (by decide)); exact e_))
              have HS2_ := keep_cell hk (hHeld.2.2.1) (by first | (rw [add_block]; exact Kd.own_blk (IsS58.own_ne HI188.out HO211.out (by decide))) | (show (Addr.add _ _).block ≠ _; rw [add_block]; exact Kd.own_blk (IsS58.own_ne HI188.out HO211.out (by decide))) | exact Kd.own_blk (IsS58.own_ne HI188.out HO211.out (by decide)) | (have e_ := Kd.own_blk (IsS58.own_ne HI188.out HO211.out (by decide)); exact e_))
              have HS3_ := keep_cell hk (hHeld.2.2.2.1) (by first | (rw [add_block]; exact Kd.own_blk (IsS58.own_ne HI188.out HO211.out (by decide))) | (show (Addr.add _ _).block ≠ _; rw [add_block]; exact Kd.own_blk (IsS58.own_ne HI188.out HO211.out (by decide))) | exact Kd.own_blk (IsS58.own_ne HI188.out HO211.out (by decide)) | (have e_ := Kd.own_blk (IsS58.own_ne HI188.out HO211.out (by decide)); exact e_))
              have HS4_ := keep_cell hk (hHeld.2.2.2.2.1) (by first | (rw [add_block]; exact Kd.own_blk (IsS58.own_ne HI188.out HO211.out (by decide))) | (show (Addr.add _ _).block ≠ _; rw [add_block]; exact Kd.own_blk (IsS58.own_ne HI188.out HO211.out (by decide))) | exact Kd.own_blk (IsS58.own_ne HI188.out HO211.out (by decide)) | (have e_ := Kd.own_blk (IsS58.own_ne HI188.out HO211.out (by decide)); exact e_))
              have HS5_ := keep_cell hk (hHeld.2.2.2.2.2.1) (by first | (rw [add_block]; exact Kd.own_blk (IsS58.own_ne HI188.out HO211.out (by decide))) | (show (Addr.add _ _).block ≠ _; rw [add_block]; exact Kd.own_blk (IsS58.own_ne HI188.out HO211.out (by decide))) | exact Kd.own_blk (IsS58.own_ne HI188.out HO211.out (by decide)) | (have e_ := Kd.own_blk (IsS58.own_ne HI188.out HO211.out (by decide)); exact e_))
              have HS6_ := keep_cell hk (hHeld.2.2.2.2.2.2.1) (by first | (rw [add_block]; exact Kd.own_blk (IsS58.own_ne HI188.out HO211.out (by decide))) | (show (Addr.add _ _).block ≠ _; rw [add_block]; exact Kd.own_blk (IsS58.own_ne HI188.out HO211.out (by decide))) | exact Kd.own_blk (IsS58.own_ne HI188.out HO211.out (by decide)) | (have e_ := Kd.own_blk (IsS58.own_ne HI188.out HO211.out (by decide)); exact e_))
              have HS7_ := keep_cell hk (hHeld.2.2.2.2.2.2.2.1) (by first | (rw [add_block]; exact Kd.own_blk (IsS58.own_ne HI188.out HO211.out (by decide))) | (show (Addr.add _ _).block ≠ _; rw [add_block]; exact Kd.own_blk (IsS58.own_ne HI188.out HO211.out (by decide))) | exact Kd.own_blk (IsS58.own_ne HI188.out HO211.out (by decide)) | (have e_ := Kd.own_blk (IsS58.own_ne HI188.out HO211.out (by decide)); exact e_))
              have HS8_ := keep_cell hk (hHeld.2.2.2.2.2.2.2.2.1) (by first | (rw [add_block]; exact Kd.own_blk (IsS58.own_ne HI188.out HO211.out (by decide))) | (show (Addr.add _ _).block ≠ _; rw [add_block]; exact Kd.own_blk (IsS58.own_ne HI188.out HO211.out (by decide))) | exact Kd.own_blk (IsS58.own_ne HI188.out HO211.out (by decide)) | (have e_ := Kd.own_blk (IsS58.own_ne HI188.out HO211.out (by decide)); exact e_))
              have HS9_ := keep_cell hk (hHeld.2.2.2.2.2.2.2.2.2.1) (by first | (rw [add_block]; exact Kd.own_blk (IsS58.own_ne HI188.out HO211.out (by decide))) | (show (Addr.add _ _).block ≠ _; rw [add_block]; exact Kd.own_blk (IsS58.own_ne HI188.out HO211.out (by decide))) | exact Kd.own_blk (IsS58.own_ne HI188.out HO211.out (by decide)) | (have e_ := Kd.own_blk (IsS58.own_ne HI188.out HO211.out (by decide)); exact e_))
              have HS10_ := keep_cell hk (hHeld.2.2.2.2.2.2.2.2.2.2.1) (by first | (rw [add_block]; exact Kd.own_blk (IsS58.own_ne HI188.out HO211.out (by decide))) | (show (Addr.add _ _).block ≠ _; rw [add_block]; exact Kd.own_blk (IsS58.own_ne HI188.out HO211.out (by decide))) | exact Kd.own_blk (IsS58.own_ne HI188.out HO211.out (by decide)) | (have e_ := Kd.own_blk (IsS58.own_ne HI188.out HO211.out (by decide)); exact e_))
              have HS11_ := keep_cell hk (hHeld.2.2.2.2.2.2.2.2.2.2.2) (by first | (rw [add_block]; exact Kd.own_blk (IsS58.own_ne HI188.out HO211.out (by decide))) | (show (Addr.add _ _).block ≠ _; rw [add_block]; exact Kd.own_blk (IsS58.own_ne HI188.out HO211.out (by decide))) | exact Kd.own_blk (IsS58.own_ne HI188.out HO211.out (by decide)) | (have e_ := Kd.own_blk (IsS58.own_ne HI188.out HO211.out (by decide)); exact e_))
              refine ⟨_, rfl, ?_⟩
              have n0_ := Aside0.mk (Kd.R_mono (Kd.R_keep (IsS58.apart (show IsS58 w _ g188 t215 from by repeat (first | (with_reducible first | exact HI188.out | apply IsS58.alloc | apply IsS58.drewN | apply IsS58.drew | apply IsS58.set_0) | exact HI188.out)) (by (with_reducible repeat (first | apply Kd.R_alloc | apply Kd.R_drewN | apply Kd.R_drew)); exact HO211.out) (by decide)) hk (fun _ h => h.2)) (fun _ h => h.1))
              have n1_ := Aside0.mk (hb)
              have n2_ := Aside0.mk (hi)
              clear HO211
              clear HB
              clear HI188
              have HO211 := n0_
              have HB := n1_
              have HI188 := n2_
              clear n0_ n1_ n2_
              (try clear hb)
              (try clear hb2)
              (try clear hk)
              (try clear hi)
              refine hK.out _ _ ⟨HS0_, HS1_, HS2_, HS3_, HS4_, HS5_, HS6_, HS7_, HS8_, HS9_, HS10_, HS11_⟩ (fun hHeld => ?_)
              clear hK K
              refine norm_ (a' := ?_) ?_ ?_
              rotate_left
              ·show Act.put _ (some 109) _ = _
               simp only [Act.put, List.setIfInBounds_toArray, List.set_cons_zero, List.set_cons_succ, i64_w, i32_w]
               rfl
              refine pure_ (i := 34) (N := some 110) (v := ?_) (a' := ?_) #[true, true, true, true, true, true, true, true, true, true, true, true, true, true, true, true, true, true, true, true, true, true, true, true, true, true, true, true, true, true, true, true, true, true, true, false, false, false, false] rfl rfl (any_of HT_.out (by kernel_rfl)) (fun _ _ _ h => h) (Or.inl ⟨by rfl, ?_⟩) ?_ ?_
              rotate_left
              ·intro w'
               go_simp
               with_reducible rfl
              rotate_left
              ·simp only [Act.put, List.setIfInBounds_toArray, List.set_cons_zero, List.set_cons_succ, i64_w, i32_w]
               rfl
              refine pure_ (i := 35) (N := some 111) (v := ?_) (a' := ?_) #[true, true, true, true, true, true, true, true, true, true, true, true, true, true, true, true, true, true, true, true, true, true, true, true, true, true, true, true, true, true, true, true, true, true, true, true, false, false, false] rfl rfl (any_of HT_.out (by kernel_rfl)) (fun _ _ _ h => h) (Or.inl ⟨by rfl, ?_⟩) ?_ ?_
              rotate_left
              ·intro w'
               go_simp
               with_reducible rfl
              rotate_left
              ·simp only [Act.put, List.setIfInBounds_toArray, List.set_cons_zero, List.set_cons_succ, i64_w, i32_w]
               rfl
              refine pure_ (i := 36) (N := some 112) (v := ?_) (a' := ?_) #[true, true, true, true, true, true, true, true, true, true, true, true, true, true, true, true, true, true, true, true, true, true, true, true, true, true, true, true, true, true, true, true, true, true, true, true, true, false, false] rfl rfl (any_of HT_.out (by kernel_rfl)) (fun _ _ _ h => h) (Or.inl ⟨by rfl, ?_⟩) ?_ ?_
              rotate_left
              ·intro w'
               go_simp
               with_reducible rfl
              rotate_left
              ·simp only [Act.put, List.setIfInBounds_toArray, List.set_cons_zero, List.set_cons_succ, i64_w, i32_w]
               rfl
              refine pure_ (i := 37) (N := some 113) (v := ?_) (a' := ?_) #[true, true, true, true, true, true, true, true, true, true, true, true, true, true, true, true, true, true, true, true, true, true, true, true, true, true, true, true, true, true, true, true, true, true, true, true, true, true, false] rfl rfl (any_of HT_.out (by kernel_rfl)) (fun _ _ _ h => h) (Or.inl ⟨by rfl, ?_⟩) ?_ ?_
              rotate_left
              ·intro w'
               go_simp
               with_reducible rfl
              rotate_left
              ·simp only [Act.put, List.setIfInBounds_toArray, List.set_cons_zero, List.set_cons_succ, i64_w, i32_w]
               rfl
              refine pure_ (i := 38) (N := some 2) (v := ?_) (a' := ?_) #[true, true, true, true, true, true, true, true, true, true, true, true, true, true, true, true, true, true, true, true, true, true, true, true, true, true, true, true, true, true, true, true, true, true, true, true, true, true, true] rfl rfl (any_of HT_.out (by kernel_rfl)) (fun _ _ _ h => h) (Or.inl ⟨by rfl, ?_⟩) ?_ ?_
              rotate_left
              ·intro w'
               go_simp
               with_reducible rfl
              rotate_left
              ·simp only [Act.put, List.setIfInBounds_toArray, List.set_cons_zero, List.set_cons_succ, i64_w, i32_w]
               rfl
              refine done_ (done_of HT_.out (by kernel_rfl)) ?_
              try go_wp2
              go_ret
              exact ⟨by first | rfl | (simp [errW_none, errW_some] <;> rfl) | (simp only [← hji53]; first | rfl | (simp [errW_none, errW_some] <;> rfl)) | (simp [*, errW_none, errW_some] <;> rfl), by repeat (first | (with_reducible first | exact HB.out | apply below_alloc | apply pw_below_drewN | apply below_drew1 | refine below_set ?_ (IsS58.ge HI188.out)) | exact HB.out)⟩
             ·rw [if_neg c55] at H
              exact absurd H (by simp)
            ·rw [if_neg c54] at H
             exact absurd H (by simp)
           ·rw [if_neg c52] at H
            exact absurd H (by simp)
          ·rw [if_neg c50] at H
           exact absurd H (by simp)
         ·rw [if_neg c49] at H
          exact absurd H (by simp)
       ·rw [if_neg c41] at H
        have c41b0 : ((t209.length : Int) == 0) = false := beq_eq_false_iff_ne.mpr c41
        have c41b1 : ((t209.length : Int) != 0) = true := bne_iff_ne.mpr c41
        have c41b2 : ¬ (t209 = []) := fun h_ => c41 (by rw [h_]; rfl)
        by_cases c64 : (t209.length : Int) > 0
        ·rw [if_pos c64] at H
         have c64b0 : decide (0 < (t209.length : Int)) = true := decide_eq_true c64
         have c64b1 : decide (0 < t209.length) = true := decide_eq_true (by omega)
         clear c64
         by_cases c65 : 0 < (t209.length : Int)
         ·rw [if_pos c65] at H
          have c65b0 : decide (0 < (t209.length : Int)) = true := decide_eq_true c65
          have c65b1 : decide (0 < t209.length) = true := decide_eq_true (by omega)
          clear c65
          replace H := Option.bind_eq_some_iff.mp H
          obtain ⟨t222, A660, H⟩ := H
          replace H : (if t222 = 1 then (if 0 ≤ (wrap64 ((t209.length : Int) - 1)) then (if (wrap64 ((t209.length : Int) - 1)) < (t209.length : Int) then ((collect_Collector_From.f t212).bind fun bt224 => (some ((wrap64 (((rd_T42 t209 (wrap64 ((t209.length : Int) - 1))).f0) + 1)) == bt224.1))) else (none)) else (none)) else (none)) = some r := H
          have A66 := Aside0.mk A660
          clear A660
          by_cases c67 : t222 = 1
          ·rw [if_pos c67] at H
           have c67b0 : (t222 == 1) = true := beq_iff_eq.mpr c67
           have c67b1 : (t222 != 1) = false := bne_eq_false_iff_eq.mpr c67
           clear c67
           obtain ⟨ji68, hji68⟩ : ∃ j_ : Int, (wrap64 ((t209.length : Int) - 1)) = j_ := ⟨_, rfl⟩
           replace H : (if 0 ≤ (ji68) then (if (ji68) < (t209.length : Int) then ((collect_Collector_From.f t212).bind fun bt224 => (some ((wrap64 (((rd_T42 t209 (ji68)).f0) + 1)) == bt224.1))) else (none)) else (none)) = some r := by first | (rw [hji68] at H; exact H) | (simp only [hji68] at H ⊢; exact H)
           (try rw [hji68] at A38)
           (try rw [hji68] at A39)
           (try rw [hji68] at A66)
           have hji68w : (IntKind.i64.wrap ((t209.length : Int) - 1)) = ji68 := (i64_w _).trans hji68
           by_cases c69 : 0 ≤ (ji68)
           ·rw [if_pos c69] at H
            have c69b0 : decide (0 ≤ (ji68)) = true := decide_eq_true c69
            clear c69
            by_cases c70 : (ji68) < (t209.length : Int)
            ·rw [if_pos c70] at H
             have c70b0 : decide ((ji68) < (t209.length : Int)) = true := decide_eq_true c70
             clear c70
             replace H := Option.bind_eq_some_iff.mp H
             obtain ⟨⟨t224, t225⟩, A710, H⟩ := H
             replace H : (some ((wrap64 (((rd_T42 t209 (ji68)).f0) + 1)) == t224)) = some r := H
             have A71 := Aside0.mk A710
             clear A710
             obtain rfl := Option.some.inj H
             try go_wp2_with (first | ((with_reducible refine gate_callee (f := 20) rfl ?_); refine goesL_ (some 75) rfl rfl Try.func20 (by kernel_rfl) rfl #[.pointer (some ⟨g188, 0, none⟩)] rfl (by (try simp only [List.map_toArray, List.map_cons, List.map_nil]); first | done | rfl | (simp only [List.length_drop, List.length_take]; rfl)) ?_; (with_reducible refine (collect_Collector_Records.calls g188 x189000_1 t209 t212 w _ ?side1 ?side2 A38.out).mono ?_); (case side1 => repeat (first | (with_reducible first | exact HI188.out | apply IsS58.alloc | apply IsS58.drewN | apply IsS58.drew | apply IsS58.set_0) | exact HI188.out)); (case side2 => repeat (first | (with_reducible first | exact HB.out | apply below_alloc | apply pw_below_drewN | apply below_drew1 | refine below_set ?_ (IsS58.ge HI188.out)) | exact HB.out)); rintro e w72 ⟨v210, rfl, ho0, hi, hb, hk⟩; refine ⟨_, rfl, ?_⟩; have n0_ := Aside0.mk (Kd.R_lower ho0 (below_size (by repeat (first | (with_reducible first | exact HB.out | apply below_alloc | apply pw_below_drewN | apply below_drew1 | refine below_set ?_ (IsS58.ge HI188.out)) | exact HB.out)))); have n1_ := Aside0.mk (hb); have n2_ := Aside0.mk (hi); clear HB; clear HI188; have HO211 := n0_; have HB := n1_; have HI188 := n2_; clear n0_ n1_ n2_; (try clear hb); (try clear hb2); (try clear hk); (try clear hi); (try clear ho0)))
             have n0_ := Aside0.mk (Kd.R_drew HO211.out)
             have n1_ := Aside0.mk (IsS58.drew HI188.out)
             have n2_ := Aside0.mk (below_drew1 HB.out)
             clear HO211
             clear HI188
             clear HB
             have HO211 := n0_
             have HI188 := n1_
             have HB := n2_
             clear n0_ n1_ n2_
             obtain ⟨Ao74, co74, eo74⟩ := Kd.R_slice HO211.out
             (first | subst eo74 | (injection eo74 with f1_ f2_ f3_; have f4_ := f1_.symm; have f5_ := f3_.symm; clear f1_ f2_ f3_; subst f4_; subst f5_))
             have p221 : 0 ≤ (0 : Int) := (by omega)
             have q221 : 0 < (t209.length : Int) := of_decide_eq_true (by first | (with_reducible assumption) | assumption)
             obtain ⟨ad221, e221, hx221_0, hx221_1, hx221_2, hx221_3, hx221_4, hx221_5⟩ := at_T42 (Kd.R_reads' HO211.out).2.2 0 p221 q221
             cases e221
             have qi221 : (0 < t209.length) = True := eq_true (by omega)
             (try rw [show ((0 : Int)).toNat = 0 from rfl] at hx221_0)
             (try rw [show 0 * 6 = 0 from rfl] at hx221_0)
             (try rw [Addr.add_zero'] at hx221_0)
             (try rw [show ((0 : Int)).toNat = 0 from rfl] at hx221_1)
             (try rw [show 0 * 6 = 0 from rfl] at hx221_1)
             (try rw [Addr.add_zero'] at hx221_1)
             (try rw [show ((0 : Int)).toNat = 0 from rfl] at hx221_2)
             (try rw [show 0 * 6 = 0 from rfl] at hx221_2)
             (try rw [Addr.add_zero'] at hx221_2)
             (try rw [show ((0 : Int)).toNat = 0 from rfl] at hx221_3)
             (try rw [show 0 * 6 = 0 from rfl] at hx221_3)
             (try rw [Addr.add_zero'] at hx221_3)
             (try rw [show ((0 : Int)).toNat = 0 from rfl] at hx221_4)
             (try rw [show 0 * 6 = 0 from rfl] at hx221_4)
             (try rw [Addr.add_zero'] at hx221_4)
             (try rw [show ((0 : Int)).toNat = 0 from rfl] at hx221_5)
             (try rw [show 0 * 6 = 0 from rfl] at hx221_5)
             (try rw [Addr.add_zero'] at hx221_5)
             replace p221 := eq_true p221
             replace q221 := eq_true q221
             have p223 : 0 ≤ ((ji68) : Int) := of_decide_eq_true (by first | (with_reducible assumption) | assumption)
             have q223 : (ji68) < (t209.length : Int) := of_decide_eq_true (by first | (with_reducible assumption) | assumption)
             obtain ⟨ad223, e223, hx223_0, hx223_1, hx223_2, hx223_3, hx223_4, hx223_5⟩ := at_T42 (Kd.R_reads' HO211.out).2.2 (ji68) p223 q223
             obtain rfl : ad221 = ad223 := (by injection e223)
             replace p223 := eq_true p223
             replace q223 := eq_true q223
             refine start_ (n := 39) (S := fun w' => w'.cell? ad221 = some (.int .i64 ((rd_T42 t209 0).f0)) ∧ w'.cell? ⟨ad221.block, ad221.off + 1, none⟩ = some (.int .i64 ((rd_T42 t209 0).f1)) ∧ w'.cell? ⟨ad221.block, ad221.off + 2, none⟩ = some (.int .i64 ((rd_T42 t209 0).f2.f0)) ∧ w'.cell? ⟨ad221.block, ad221.off + 3, none⟩ = some (.int .i64 ((rd_T42 t209 0).f2.f1)) ∧ w'.cell? ⟨ad221.block, ad221.off + 4, none⟩ = some (.int .i64 ((rd_T42 t209 0).f3)) ∧ w'.cell? ⟨ad221.block, ad221.off + 5, none⟩ = some (.int .i64 ((rd_T42 t209 0).f4)) ∧ w'.cell? (ad221.add (((ji68)).toNat * 6)) = some (.int .i64 ((rd_T42 t209 (ji68)).f0)) ∧ w'.cell? ⟨(ad221.add (((ji68)).toNat * 6)).block, (ad221.add (((ji68)).toNat * 6)).off + 1, none⟩ = some (.int .i64 ((rd_T42 t209 (ji68)).f1)) ∧ w'.cell? ⟨(ad221.add (((ji68)).toNat * 6)).block, (ad221.add (((ji68)).toNat * 6)).off + 2, none⟩ = some (.int .i64 ((rd_T42 t209 (ji68)).f2.f0)) ∧ w'.cell? ⟨(ad221.add (((ji68)).toNat * 6)).block, (ad221.add (((ji68)).toNat * 6)).off + 3, none⟩ = some (.int .i64 ((rd_T42 t209 (ji68)).f2.f1)) ∧ w'.cell? ⟨(ad221.add (((ji68)).toNat * 6)).block, (ad221.add (((ji68)).toNat * 6)).off + 4, none⟩ = some (.int .i64 ((rd_T42 t209 (ji68)).f3)) ∧ w'.cell? ⟨(ad221.add (((ji68)).toNat * 6)).block, (ad221.add (((ji68)).toNat * 6)).off + 5, none⟩ = some (.int .i64 ((rd_T42 t209 (ji68)).f4))) (ds := []) #[false, false, false, false, false, false, false, false, false, false, false, false, false, false, false, false, false, false, false, false, false, false, false, false, false, false, false, false, false, false, false, false, false, false, false, false, false, false, false] (by kernel_rfl) rfl rfl ⟨hx221_0, hx221_1, hx221_2, hx221_3, hx221_4, hx221_5, hx223_0, hx223_1, hx223_2, hx223_3, hx223_4, hx223_5⟩ (fun hHeld => ?_); refine with_tabW plenumlaw42_CollectSound.tab17 plenumlaw42_CollectSound.bits17 (fun HT_ HW_ => ?_)
             generalize w72.drew = w73 at HO211 HI188 HB hx221_0 hx221_1 hx221_2 hx221_3 hx221_4 hx221_5 hx223_0 hx223_1 hx223_2 hx223_3 hx223_4 hx223_5 hHeld ⊢
             refine pure_ (i := 0) (N := some 76) (v := ?_) (a' := ?_) #[true, false, false, false, false, false, false, false, false, false, false, false, false, false, false, false, false, false, false, false, false, false, false, false, false, false, false, false, false, false, false, false, false, false, false, false, false, false, false] rfl rfl (any_of HT_.out (by kernel_rfl)) (fun _ _ _ h => h) (Or.inl ⟨by rfl, ?_⟩) ?_ ?_
             rotate_left
             ·intro w'
              go_simp
              with_reducible rfl
             rotate_left
             ·simp only [Act.put, List.setIfInBounds_toArray, List.set_cons_zero, List.set_cons_succ, i64_w, i32_w]
              rfl
             refine one_ (i := 1) (N := some 77) #[true, true, false, false, false, false, false, false, false, false, false, false, false, false, false, false, false, false, false, false, false, false, false, false, false, false, false, false, false, false, false, false, false, false, false, false, false, false, false] rfl rfl (one_of HT_.out (by kernel_rfl)) (by decide) (fun K hK => ?_)
             refine goes_ Try.func21 (by kernel_rfl) rfl #[.slice (some ad221) t209.length co74] (by rfl) rfl rfl (by (try simp only [List.map_toArray, List.map_cons, List.map_nil]); first | done | rfl | (simp only [List.length_drop, List.length_take]; rfl)) ?_
             with_reducible refine (collect_Check.calls k1 _ _ t209 t213 _ ?side1 ?side2 A39.out).mono ?_
             (case side1 => repeat (first | exact (Kd.R_reads' HO211.out).2.2 | (with_reducible refine Kd.C_alloc ?_ _) | (with_reducible refine Kd.C_drewN ?_ _) | (with_reducible refine Kd.C_drew ?_)))
             (case side2 => exact (Kd.R_reads' HO211.out).2.1)
             rintro e w75 ⟨rfl, hb⟩
             have HS0_ := (hb.cell (World.block_lt_of_cell? _ _ (hHeld.1))).trans (hHeld.1)
             have HS1_ := (hb.cell (World.block_lt_of_cell? _ _ (hHeld.2.1))).trans (hHeld.2.1)
             have HS2_ := (hb.cell (World.block_lt_of_cell? _ _ (hHeld.2.2.1))).trans (hHeld.2.2.1)
             have HS3_ := (hb.cell (World.block_lt_of_cell? _ _ (hHeld.2.2.2.1))).trans (hHeld.2.2.2.1)
             have HS4_ := (hb.cell (World.block_lt_of_cell? _ _ (hHeld.2.2.2.2.1))).trans (hHeld.2.2.2.2.1)
             have HS5_ := (hb.cell (World.block_lt_of_cell? _ _ (hHeld.2.2.2.2.2.1))).trans (hHeld.2.2.2.2.2.1)
             have HS6_ := (hb.cell (World.block_lt_of_cell? _ _ (hHeld.2.2.2.2.2.2.1))).trans (hHeld.2.2.2.2.2.2.1)
             have HS7_ := (hb.cell (World.block_lt_of_cell? _ _ (hHeld.2.2.2.2.2.2.2.1))).trans (hHeld.2.2.2.2.2.2.2.1)
             have HS8_ := (hb.cell (World.block_lt_of_cell? _ _ (hHeld.2.2.2.2.2.2.2.2.1))).trans (hHeld.2.2.2.2.2.2.2.2.1)
             have HS9_ := (hb.cell (World.block_lt_of_cell? _ _ (hHeld.2.2.2.2.2.2.2.2.2.1))).trans (hHeld.2.2.2.2.2.2.2.2.2.1)
             have HS10_ := (hb.cell (World.block_lt_of_cell? _ _ (hHeld.2.2.2.2.2.2.2.2.2.2.1))).trans (hHeld.2.2.2.2.2.2.2.2.2.2.1)
             have HS11_ := (hb.cell (World.block_lt_of_cell? _ _ (hHeld.2.2.2.2.2.2.2.2.2.2.2))).trans (hHeld.2.2.2.2.2.2.2.2.2.2.2)
             refine ⟨_, rfl, ?_⟩
             have n0_ := Aside0.mk (Kd.R_below (by (with_reducible repeat (first | apply Kd.R_alloc | apply Kd.R_drewN | apply Kd.R_drew)); exact HO211.out) hb)
             have n1_ := Aside0.mk (IsS58.below (by repeat (first | (with_reducible first | exact HI188.out | apply IsS58.alloc | apply IsS58.drewN | apply IsS58.drew | apply IsS58.set_0) | exact HI188.out)) hb)
             have n2_ := Aside0.mk (below_step (by repeat (first | (with_reducible first | exact HB.out | apply below_alloc | apply pw_below_drewN | apply below_drew1 | refine below_set ?_ (IsS58.ge HI188.out)) | exact HB.out)) hb)
             clear HO211
             clear HI188
             clear HB
             have HO211 := n0_
             have HI188 := n1_
             have HB := n2_
             clear n0_ n1_ n2_
             (try clear hb)
             (try clear hb2)
             (try clear hk)
             (try clear hi)
             refine hK.out _ _ ⟨HS0_, HS1_, HS2_, HS3_, HS4_, HS5_, HS6_, HS7_, HS8_, HS9_, HS10_, HS11_⟩ (fun hHeld => ?_)
             clear hK K
             refine norm_ (a' := ?_) ?_ ?_
             rotate_left
             ·show Act.put _ (some 77) _ = _
              simp only [Act.put, List.setIfInBounds_toArray, List.set_cons_zero, List.set_cons_succ, i64_w, i32_w]
              rfl
             refine pure_ (i := 2) (N := some 78) (v := ?_) (a' := ?_) #[true, true, true, false, false, false, false, false, false, false, false, false, false, false, false, false, false, false, false, false, false, false, false, false, false, false, false, false, false, false, false, false, false, false, false, false, false, false, false] rfl rfl (any_of HT_.out (by kernel_rfl)) (fun _ _ _ h => h) (Or.inl ⟨by rfl, ?_⟩) ?_ ?_
             rotate_left
             ·intro w'
              go_simp
              with_reducible rfl
             rotate_left
             ·simp only [Act.put, List.setIfInBounds_toArray, List.set_cons_zero, List.set_cons_succ, i64_w, i32_w]
              rfl
             refine pure_ (i := 3) (N := some 79) (v := ?_) (a' := ?_) #[true, true, true, true, false, false, false, false, false, false, false, false, false, false, false, false, false, false, false, false, false, false, false, false, false, false, false, false, false, false, false, false, false, false, false, false, false, false, false] rfl rfl (any_of HT_.out (by kernel_rfl)) (fun _ _ _ h => h) (Or.inl ⟨by rfl, ?_⟩) ?_ ?_
             rotate_left
             ·intro w'
              go_simp
              with_reducible rfl
             rotate_left
             ·simp only [Act.put, List.setIfInBounds_toArray, List.set_cons_zero, List.set_cons_succ, i64_w, i32_w]
              rfl
             refine pure_ (i := 4) (N := some 80) (v := ?_) (a' := ?_) #[true, true, true, true, true, false, false, false, false, false, false, false, false, false, false, false, false, false, false, false, false, false, false, false, false, false, false, false, false, false, false, false, false, false, false, false, false, false, false] rfl rfl (any_of HT_.out (by kernel_rfl)) (fun _ _ _ h => h) (Or.inl ⟨by rfl, ?_⟩) ?_ ?_
             rotate_left
             ·intro w'
              go_simp
              with_reducible rfl
             rotate_left
             ·simp only [Act.put, List.setIfInBounds_toArray, List.set_cons_zero, List.set_cons_succ, i64_w, i32_w]
              rfl
             refine pure_ (i := 5) (N := some 81) (v := ?_) (a' := ?_) #[true, true, true, true, true, true, false, false, false, false, false, false, false, false, false, false, false, false, false, false, false, false, false, false, false, false, false, false, false, false, false, false, false, false, false, false, false, false, false] rfl rfl (any_of HT_.out (by kernel_rfl)) (fun _ _ _ h => h) (Or.inl ⟨by rfl, ?_⟩) ?_ ?_
             rotate_left
             ·intro w'
              go_simp
              with_reducible rfl
             rotate_left
             ·simp only [Act.put, List.setIfInBounds_toArray, List.set_cons_zero, List.set_cons_succ, i64_w, i32_w]
              rfl
             refine pure_ (i := 6) (N := some 82) (v := ?_) (a' := ?_) #[true, true, true, true, true, true, true, false, false, false, false, false, false, false, false, false, false, false, false, false, false, false, false, false, false, false, false, false, false, false, false, false, false, false, false, false, false, false, false] rfl rfl (any_of HT_.out (by kernel_rfl)) (fun _ _ _ h => h) (Or.inl ⟨by rfl, ?_⟩) ?_ ?_
             rotate_left
             ·intro w'
              go_simp
              with_reducible rfl
             rotate_left
             ·simp only [Act.put, List.setIfInBounds_toArray, List.set_cons_zero, List.set_cons_succ, i64_w, i32_w]
              rfl
             refine pure_ (i := 7) (N := some 83) (v := ?_) (a' := ?_) #[true, true, true, true, true, true, true, true, false, false, false, false, false, false, false, false, false, false, false, false, false, false, false, false, false, false, false, false, false, false, false, false, false, false, false, false, false, false, false] rfl rfl (any_of HT_.out (by kernel_rfl)) (fun _ _ _ h => h) (Or.inl ⟨by rfl, ?_⟩) ?_ ?_
             rotate_left
             ·intro w'
              go_simp
              with_reducible rfl
             rotate_left
             ·simp only [Act.put, List.setIfInBounds_toArray, List.set_cons_zero, List.set_cons_succ, i64_w, i32_w]
              rfl
             refine pure_ (i := 8) (N := some 84) (v := undef) (a' := ?_) #[true, true, true, true, true, true, true, true, true, false, false, false, false, false, false, false, false, false, false, false, false, false, false, false, false, false, false, false, false, false, false, false, false, false, false, false, false, false, false] rfl rfl (any_of HT_.out (by kernel_rfl)) (fun _ _ _ h => h) (Or.inr ⟨by rfl, rfl⟩) ?_ ?_
             rotate_left
             ·simp only [Act.put, List.setIfInBounds_toArray, List.set_cons_zero, List.set_cons_succ, i64_w, i32_w]
              rfl
             refine pure_ (i := 9) (N := some 85) (v := undef) (a' := ?_) #[true, true, true, true, true, true, true, true, true, true, false, false, false, false, false, false, false, false, false, false, false, false, false, false, false, false, false, false, false, false, false, false, false, false, false, false, false, false, false] rfl rfl (any_of HT_.out (by kernel_rfl)) (fun _ _ _ h => h) (Or.inr ⟨by rfl, rfl⟩) ?_ ?_
             rotate_left
             ·simp only [Act.put, List.setIfInBounds_toArray, List.set_cons_zero, List.set_cons_succ, i64_w, i32_w]
              rfl
             refine pure_ (i := 10) (N := some 86) (v := undef) (a' := ?_) #[true, true, true, true, true, true, true, true, true, true, true, false, false, false, false, false, false, false, false, false, false, false, false, false, false, false, false, false, false, false, false, false, false, false, false, false, false, false, false] rfl rfl (any_of HT_.out (by kernel_rfl)) (fun _ _ _ h => h) (Or.inr ⟨by rfl, rfl⟩) ?_ ?_
             rotate_left
             ·simp only [Act.put, List.setIfInBounds_toArray, List.set_cons_zero, List.set_cons_succ, i64_w, i32_w]
              rfl
             refine pure_ (i := 11) (N := some 87) (v := ?_) (a' := ?_) #[true, true, true, true, true, true, true, true, true, true, true, true, false, false, false, false, false, false, false, false, false, false, false, false, false, false, false, false, false, false, false, false, false, false, false, false, false, false, false] rfl rfl (any_of HT_.out (by kernel_rfl)) (fun _ _ _ h => h) (Or.inl ⟨by rfl, ?_⟩) ?_ ?_
             rotate_left
             ·intro w'
              go_simp
              with_reducible rfl
             rotate_left
             ·simp only [Act.put, List.setIfInBounds_toArray, List.set_cons_zero, List.set_cons_succ, i64_w, i32_w]
              rfl
             refine pure_ (i := 12) (N := some 88) (v := ?_) (a' := ?_) #[true, true, true, true, true, true, true, true, true, true, true, true, true, false, false, false, false, false, false, false, false, false, false, false, false, false, false, false, false, false, false, false, false, false, false, false, false, false, false] rfl rfl (any_of HT_.out (by kernel_rfl)) (fun _ _ _ h => h) (Or.inl ⟨by rfl, ?_⟩) ?_ ?_
             rotate_left
             ·intro w'
              go_simp
              with_reducible rfl
             rotate_left
             ·simp only [Act.put, List.setIfInBounds_toArray, List.set_cons_zero, List.set_cons_succ, i64_w, i32_w]
              rfl
             refine pure_ (i := 13) (N := some 89) (v := ?_) (a' := ?_) #[true, true, true, true, true, true, true, true, true, true, true, true, true, true, false, false, false, false, false, false, false, false, false, false, false, false, false, false, false, false, false, false, false, false, false, false, false, false, false] rfl rfl (any_of HT_.out (by kernel_rfl)) (fun _ _ _ h => h) (Or.inl ⟨by rfl, ?_⟩) ?_ ?_
             rotate_left
             ·intro w'
              go_simp
              with_reducible rfl
             rotate_left
             ·simp only [Act.put, List.setIfInBounds_toArray, List.set_cons_zero, List.set_cons_succ, i64_w, i32_w]
              rfl
             refine pure_ (i := 14) (N := some 90) (v := ?_) (a' := ?_) #[true, true, true, true, true, true, true, true, true, true, true, true, true, true, true, false, false, false, false, false, false, false, false, false, false, false, false, false, false, false, false, false, false, false, false, false, false, false, false] rfl rfl (any_of HT_.out (by kernel_rfl)) (fun _ _ _ h => h) (Or.inl ⟨by rfl, ?_⟩) ?_ ?_
             rotate_left
             ·intro w'
              go_simp
              with_reducible rfl
             rotate_left
             ·simp only [Act.put, List.setIfInBounds_toArray, List.set_cons_zero, List.set_cons_succ, i64_w, i32_w]
              rfl
             refine pure_ (i := 15) (N := some 91) (v := ?_) (a' := ?_) #[true, true, true, true, true, true, true, true, true, true, true, true, true, true, true, true, false, false, false, false, false, false, false, false, false, false, false, false, false, false, false, false, false, false, false, false, false, false, false] rfl rfl (any_of HT_.out (by kernel_rfl)) (fun _ _ _ h => h) (Or.inl ⟨by rfl, ?_⟩) ?_ ?_
             rotate_left
             ·intro w'
              go_simp
              with_reducible rfl
             rotate_left
             ·simp only [Act.put, List.setIfInBounds_toArray, List.set_cons_zero, List.set_cons_succ, i64_w, i32_w]
              rfl
             refine pure_ (i := 16) (N := some 92) (v := ?_) (a' := ?_) #[true, true, true, true, true, true, true, true, true, true, true, true, true, true, true, true, true, false, false, false, false, false, false, false, false, false, false, false, false, false, false, false, false, false, false, false, false, false, false] rfl rfl (any_of HT_.out (by kernel_rfl)) (fun _ _ _ h => h) (Or.inl ⟨by rfl, ?_⟩) ?_ ?_
             rotate_left
             ·intro w'
              go_simp
              with_reducible rfl
             rotate_left
             ·simp only [Act.put, List.setIfInBounds_toArray, List.set_cons_zero, List.set_cons_succ, i64_w, i32_w]
              rfl
             refine pure_ (i := 17) (N := some 93) (v := ?_) (a' := ?_) #[true, true, true, true, true, true, true, true, true, true, true, true, true, true, true, true, true, true, false, false, false, false, false, false, false, false, false, false, false, false, false, false, false, false, false, false, false, false, false] rfl rfl (any_of HT_.out (by kernel_rfl)) (fun _ _ _ h => h) (Or.inl ⟨by rfl, ?_⟩) ?_ ?_
             rotate_left
             ·intro w'
              go_simp
              with_reducible rfl
             rotate_left
             ·simp only [Act.put, List.setIfInBounds_toArray, List.set_cons_zero, List.set_cons_succ, i64_w, i32_w]
              rfl
             refine pure_ (i := 18) (N := some 94) (v := ?_) (a' := ?_) #[true, true, true, true, true, true, true, true, true, true, true, true, true, true, true, true, true, true, true, false, false, false, false, false, false, false, false, false, false, false, false, false, false, false, false, false, false, false, false] rfl rfl (any_of HT_.out (by kernel_rfl)) (fun _ _ _ h => h) (Or.inl ⟨by rfl, ?_⟩) ?_ ?_
             rotate_left
             ·intro w'
              go_simp
              with_reducible rfl
             rotate_left
             ·simp only [Act.put, List.setIfInBounds_toArray, List.set_cons_zero, List.set_cons_succ, i64_w, i32_w]
              rfl
             refine take_ (i := 19) (N := some 95) (v := ?_) (a' := ?_) #[true, true, true, true, true, true, true, true, true, true, true, true, true, true, true, true, true, true, true, true, false, false, false, false, false, false, false, false, false, false, false, false, false, false, false, false, false, false, false] rfl rfl (take_ofW HT_.out HW_.out (by kernel_rfl)) (fun _ _ _ h => h) (Or.inl ⟨by rfl, ?_⟩) hHeld ?_ ?_
             rotate_left
             ·rintro w' ⟨s0, s1, s2, s3, s4, s5, s6, s7, s8, s9, s10, s11⟩
              go_simp
              with_reducible rfl
             rotate_left
             ·simp only [Act.put, List.setIfInBounds_toArray, List.set_cons_zero, List.set_cons_succ, i64_w, i32_w]
              rfl
             refine one_ (i := 20) (N := some 96) #[true, true, true, true, true, true, true, true, true, true, true, true, true, true, true, true, true, true, true, true, true, false, false, false, false, false, false, false, false, false, false, false, false, false, false, false, false, false, false] rfl rfl (one_of HT_.out (by kernel_rfl)) (by decide) (fun K hK => ?_)
             refine goes_ Try.func22 (by kernel_rfl) rfl #[.agg #[.int .i64 ((rd_T42 t209 0).f0), .int .i64 ((rd_T42 t209 0).f1), .int .i64 ((rd_T42 t209 0).f2.f0), .int .i64 ((rd_T42 t209 0).f2.f1), .int .i64 ((rd_T42 t209 0).f3), .int .i64 ((rd_T42 t209 0).f4)]] (by rfl) rfl rfl (by (try simp only [List.map_toArray, List.map_cons, List.map_nil]); first | done | rfl | (simp only [List.length_drop, List.length_take]; rfl)) ?_
             with_reducible refine (plenumref42_First.calls ((rd_T42 t209 0).f0) ((rd_T42 t209 0).f1) ((rd_T42 t209 0).f2.f0) ((rd_T42 t209 0).f2.f1) ((rd_T42 t209 0).f3) ((rd_T42 t209 0).f4) t222 _ A66.out).mono ?_
             rintro e w76 ⟨rfl, hb⟩
             have HS0_ := (hb.cell (World.block_lt_of_cell? _ _ (hHeld.1))).trans (hHeld.1)
             have HS1_ := (hb.cell (World.block_lt_of_cell? _ _ (hHeld.2.1))).trans (hHeld.2.1)
             have HS2_ := (hb.cell (World.block_lt_of_cell? _ _ (hHeld.2.2.1))).trans (hHeld.2.2.1)
             have HS3_ := (hb.cell (World.block_lt_of_cell? _ _ (hHeld.2.2.2.1))).trans (hHeld.2.2.2.1)
             have HS4_ := (hb.cell (World.block_lt_of_cell? _ _ (hHeld.2.2.2.2.1))).trans (hHeld.2.2.2.2.1)
             have HS5_ := (hb.cell (World.block_lt_of_cell? _ _ (hHeld.2.2.2.2.2.1))).trans (hHeld.2.2.2.2.2.1)
             have HS6_ := (hb.cell (World.block_lt_of_cell? _ _ (hHeld.2.2.2.2.2.2.1))).trans (hHeld.2.2.2.2.2.2.1)
             have HS7_ := (hb.cell (World.block_lt_of_cell? _ _ (hHeld.2.2.2.2.2.2.2.1))).trans (hHeld.2.2.2.2.2.2.2.1)
             have HS8_ := (hb.cell (World.block_lt_of_cell? _ _ (hHeld.2.2.2.2.2.2.2.2.1))).trans (hHeld.2.2.2.2.2.2.2.2.1)
             have HS9_ := (hb.cell (World.block_lt_of_cell? _ _ (hHeld.2.2.2.2.2.2.2.2.2.1))).trans (hHeld.2.2.2.2.2.2.2.2.2.1)
             have HS10_ := (hb.cell (World.block_lt_of_cell? _ _ (hHeld.2.2.2.2.2.2.2.2.2.2.1))).trans (hHeld.2.2.2.2.2.2.2.2.2.2.1)
             have HS11_ := (hb.cell (World.block_lt_of_cell? _ _ (hHeld.2.2.2.2.2.2.2.2.2.2.2))).trans (hHeld.2.2.2.2.2.2.2.2.2.2.2)
             refine ⟨_, rfl, ?_⟩
             have n0_ := Aside0.mk (Kd.R_below (by (with_reducible repeat (first | apply Kd.R_alloc | apply Kd.R_drewN | apply Kd.R_drew)); exact HO211.out) hb)
             have n1_ := Aside0.mk (IsS58.below (by repeat (first | (with_reducible first | exact HI188.out | apply IsS58.alloc | apply IsS58.drewN | apply IsS58.drew | apply IsS58.set_0) | exact HI188.out)) hb)
             have n2_ := Aside0.mk (below_step (by repeat (first | (with_reducible first | exact HB.out | apply below_alloc | apply pw_below_drewN | apply below_drew1 | refine below_set ?_ (IsS58.ge HI188.out)) | exact HB.out)) hb)
             clear HO211
             clear HI188
             clear HB
             have HO211 := n0_
             have HI188 := n1_
             have HB := n2_
             clear n0_ n1_ n2_
             (try clear hb)
             (try clear hb2)
             (try clear hk)
             (try clear hi)
             refine hK.out _ _ ⟨HS0_, HS1_, HS2_, HS3_, HS4_, HS5_, HS6_, HS7_, HS8_, HS9_, HS10_, HS11_⟩ (fun hHeld => ?_)
             clear hK K
             refine norm_ (a' := ?_) ?_ ?_
             rotate_left
             ·show Act.put _ (some 96) _ = _
              simp only [Act.put, List.setIfInBounds_toArray, List.set_cons_zero, List.set_cons_succ, i64_w, i32_w]
              rfl
             refine pure_ (i := 21) (N := some 97) (v := ?_) (a' := ?_) #[true, true, true, true, true, true, true, true, true, true, true, true, true, true, true, true, true, true, true, true, true, true, false, false, false, false, false, false, false, false, false, false, false, false, false, false, false, false, false] rfl rfl (any_of HT_.out (by kernel_rfl)) (fun _ _ _ h => h) (Or.inl ⟨by rfl, ?_⟩) ?_ ?_
             rotate_left
             ·intro w'
              go_simp
              with_reducible rfl
             rotate_left
             ·simp only [Act.put, List.setIfInBounds_toArray, List.set_cons_zero, List.set_cons_succ, i64_w, i32_w]
              rfl
             refine pure_ (i := 22) (N := some 98) (v := ?_) (a' := ?_) #[true, true, true, true, true, true, true, true, true, true, true, true, true, true, true, true, true, true, true, true, true, true, true, false, false, false, false, false, false, false, false, false, false, false, false, false, false, false, false] rfl rfl (any_of HT_.out (by kernel_rfl)) (fun _ _ _ h => h) (Or.inl ⟨by rfl, ?_⟩) ?_ ?_
             rotate_left
             ·intro w'
              go_simp
              with_reducible rfl
             rotate_left
             ·simp only [Act.put, List.setIfInBounds_toArray, List.set_cons_zero, List.set_cons_succ, i64_w, i32_w]
              rfl
             refine pure_ (i := 23) (N := some 99) (v := ?_) (a' := ?_) #[true, true, true, true, true, true, true, true, true, true, true, true, true, true, true, true, true, true, true, true, true, true, true, true, false, false, false, false, false, false, false, false, false, false, false, false, false, false, false] rfl rfl (any_of HT_.out (by kernel_rfl)) (fun _ _ _ h => h) (Or.inl ⟨by rfl, ?_⟩) ?_ ?_
             rotate_left
             ·intro w'
              go_simp
              with_reducible rfl
             rotate_left
             ·simp only [Act.put, List.setIfInBounds_toArray, List.set_cons_zero, List.set_cons_succ, i64_w, i32_w]
              rfl
             refine pure_ (i := 24) (N := some 100) (v := ?_) (a' := ?_) #[true, true, true, true, true, true, true, true, true, true, true, true, true, true, true, true, true, true, true, true, true, true, true, true, true, false, false, false, false, false, false, false, false, false, false, false, false, false, false] rfl rfl (any_of HT_.out (by kernel_rfl)) (fun _ _ _ h => h) (Or.inl ⟨by rfl, ?_⟩) ?_ ?_
             rotate_left
             ·intro w'
              go_simp
              with_reducible rfl
             rotate_left
             ·simp only [Act.put, List.setIfInBounds_toArray, List.set_cons_zero, List.set_cons_succ, i64_w, i32_w]
              rfl
             refine pure_ (i := 25) (N := some 101) (v := ?_) (a' := ?_) #[true, true, true, true, true, true, true, true, true, true, true, true, true, true, true, true, true, true, true, true, true, true, true, true, true, true, false, false, false, false, false, false, false, false, false, false, false, false, false] rfl rfl (any_of HT_.out (by kernel_rfl)) (fun _ _ _ h => h) (Or.inl ⟨by rfl, ?_⟩) ?_ ?_
             rotate_left
             ·intro w'
              go_simp
              with_reducible rfl
             rotate_left
             ·simp only [Act.put, List.setIfInBounds_toArray, List.set_cons_zero, List.set_cons_succ, i64_w, i32_w]
              rfl
             refine pure_ (i := 26) (N := some 102) (v := ?_) (a' := ?_) #[true, true, true, true, true, true, true, true, true, true, true, true, true, true, true, true, true, true, true, true, true, true, true, true, true, true, true, false, false, false, false, false, false, false, false, false, false, false, false] rfl rfl (any_of HT_.out (by kernel_rfl)) (fun _ _ _ h => h) (Or.inl ⟨by rfl, ?_⟩) ?_ ?_
             rotate_left
             ·intro w'
              go_simp
              with_reducible rfl
             rotate_left
             ·simp only [Act.put, List.setIfInBounds_toArray, List.set_cons_zero, List.set_cons_succ, i64_w, i32_w]
              rfl
             refine pure_ (i := 27) (N := some 103) (v := ?_) (a' := ?_) #[true, true, true, true, true, true, true, true, true, true, true, true, true, true, true, true, true, true, true, true, true, true, true, true, true, true, true, true, false, false, false, false, false, false, false, false, false, false, false] rfl rfl (any_of HT_.out (by kernel_rfl)) (fun _ _ _ h => h) (Or.inl ⟨by rfl, ?_⟩) ?_ ?_
             rotate_left
             ·intro w'
              go_simp
              with_reducible rfl
             rotate_left
             ·simp only [Act.put, List.setIfInBounds_toArray, List.set_cons_zero, List.set_cons_succ, i64_w, i32_w]
              rfl
             refine pure_ (i := 28) (N := some 104) (v := ?_) (a' := ?_) #[true, true, true, true, true, true, true, true, true, true, true, true, true, true, true, true, true, true, true, true, true, true, true, true, true, true, true, true, true, false, false, false, false, false, false, false, false, false, false] rfl rfl (any_of HT_.out (by kernel_rfl)) (fun _ _ _ h => h) (Or.inl ⟨by rfl, ?_⟩) ?_ ?_
             rotate_left
             ·intro w'
              go_simp
              with_reducible rfl
             rotate_left
             ·simp only [Act.put, List.setIfInBounds_toArray, List.set_cons_zero, List.set_cons_succ, i64_w, i32_w]
              rfl
             refine pure_ (i := 29) (N := some 105) (v := ?_) (a' := ?_) #[true, true, true, true, true, true, true, true, true, true, true, true, true, true, true, true, true, true, true, true, true, true, true, true, true, true, true, true, true, true, false, false, false, false, false, false, false, false, false] rfl rfl (any_of HT_.out (by kernel_rfl)) (fun _ _ _ h => h) (Or.inl ⟨by rfl, ?_⟩) ?_ ?_
             rotate_left
             ·intro w'
              go_simp
              with_reducible rfl
             rotate_left
             ·simp only [Act.put, List.setIfInBounds_toArray, List.set_cons_zero, List.set_cons_succ, i64_w, i32_w]
              rfl
             refine pure_ (i := 32) (N := some 108) (v := ?_) (a' := ?_) #[true, true, true, true, true, true, true, true, true, true, true, true, true, true, true, true, true, true, true, true, true, true, true, true, true, true, true, true, true, true, false, false, true, false, false, false, false, false, false] rfl rfl (any_of HT_.out (by kernel_rfl)) (fun _ _ _ h => h) (Or.inl ⟨by rfl, ?_⟩) ?_ ?_
             rotate_left
             ·intro w'
              go_simp
              with_reducible rfl
             rotate_left
             ·simp only [Act.put, List.setIfInBounds_toArray, List.set_cons_zero, List.set_cons_succ, i64_w, i32_w]
              rfl
             refine take_ (i := 30) (N := some 106) (v := ?_) (a' := ?_) #[true, true, true, true, true, true, true, true, true, true, true, true, true, true, true, true, true, true, true, true, true, true, true, true, true, true, true, true, true, true, true, false, true, false, false, false, false, false, false] rfl rfl (take_ofW HT_.out HW_.out (by kernel_rfl)) (fun _ _ _ h => h) (Or.inl ⟨by rfl, ?_⟩) hHeld ?_ ?_
             rotate_left
             ·rintro w' ⟨s0, s1, s2, s3, s4, s5, s6, s7, s8, s9, s10, s11⟩
              go_simp
              with_reducible rfl
             rotate_left
             ·simp only [Act.put, List.setIfInBounds_toArray, List.set_cons_zero, List.set_cons_succ, i64_w, i32_w]
              rfl
             refine pure_ (i := 31) (N := some 107) (v := ?_) (a' := ?_) #[true, true, true, true, true, true, true, true, true, true, true, true, true, true, true, true, true, true, true, true, true, true, true, true, true, true, true, true, true, true, true, true, true, false, false, false, false, false, false] rfl rfl (any_of HT_.out (by kernel_rfl)) (fun _ _ _ h => h) (Or.inl ⟨by rfl, ?_⟩) ?_ ?_
             rotate_left
             ·intro w'
              go_simp
              with_reducible rfl
             rotate_left
             ·simp only [Act.put, List.setIfInBounds_toArray, List.set_cons_zero, List.set_cons_succ, i64_w, i32_w]
              rfl
             refine one_ (i := 33) (N := some 109) #[true, true, true, true, true, true, true, true, true, true, true, true, true, true, true, true, true, true, true, true, true, true, true, true, true, true, true, true, true, true, true, true, true, true, false, false, false, false, false] rfl rfl (one_of HT_.out (by kernel_rfl)) (by decide) (fun K hK => ?_)
             refine goes_ Try.func15 (by kernel_rfl) rfl #[.pointer (some ⟨g188, 0, none⟩)] (by rfl) rfl rfl (by (try simp only [List.map_toArray, List.map_cons, List.map_nil]); first | done | rfl | (simp only [List.length_drop, List.length_take]; rfl)) ?_
             with_reducible refine (collect_Collector_From.calls g188 t212 t224 t225 w _ ?side1 ?side2 A71.out).mono ?_
             (case side1 => repeat (first | (with_reducible first | exact HI188.out | apply IsS58.alloc | apply IsS58.drewN | apply IsS58.drew | apply IsS58.set_0) | exact HI188.out))
             (case side2 => repeat (first | (with_reducible first | exact HB.out | apply below_alloc | apply pw_below_drewN | apply below_drew1 | refine below_set ?_ (IsS58.ge HI188.out)) | exact HB.out))
             rintro e w77 ⟨rfl, hi, hb, hk⟩
             have HS0_ := keep_cell hk (hHeld.1) (by first | (rw [add_block]; exact Kd.own_blk (IsS58.own_ne HI188.out HO211.out (by decide))) | (show (Addr.add _ _).block ≠ _; rw [add_block]; exact Kd.own_blk (IsS58.own_ne HI188.out HO211.out (by decide))) | exact Kd.own_blk (IsS58.own_ne HI188.out HO211.out (by decide)) | (have e_ := Kd.own_blk (IsS58.own_ne HI188.out HO211.out (by decide)); exact e_))
             have HS1_ := keep_cell hk (hHeld.2.1) (by first | (rw [add_block]; exact Kd.own_blk (IsS58.own_ne HI188.out HO211.out (by decide))) | (show (Addr.add _ _).block ≠ _; rw [add_block]; exact Kd.own_blk (IsS58.own_ne HI188.out HO211.out (by decide))) | exact Kd.own_blk (IsS58.own_ne HI188.out HO211.out (by decide)) | (have e_ := Kd.own_blk (IsS58.own_ne HI188.out HO211.out (by decide)); exact e_))
             have HS2_ := keep_cell hk (hHeld.2.2.1) (by first | (rw [add_block]; exact Kd.own_blk (IsS58.own_ne HI188.out HO211.out (by decide))) | (show (Addr.add _ _).block ≠ _; rw [add_block]; exact Kd.own_blk (IsS58.own_ne HI188.out HO211.out (by decide))) | exact Kd.own_blk (IsS58.own_ne HI188.out HO211.out (by decide)) | (have e_ := Kd.own_blk (IsS58.own_ne HI188.out HO211.out (by decide)); exact e_))
             have HS3_ := keep_cell hk (hHeld.2.2.2.1) (by first | (rw [add_block]; exact Kd.own_blk (IsS58.own_ne HI188.out HO211.out (by decide))) | (show (Addr.add _ _).block ≠ _; rw [add_block]; exact Kd.own_blk (IsS58.own_ne HI188.out HO211.out (by decide))) | exact Kd.own_blk (IsS58.own_ne HI188.out HO211.out (by decide)) | (have e_ := Kd.own_blk (IsS58.own_ne HI188.out HO211.out (by decide)); exact e_))
             have HS4_ := keep_cell hk (hHeld.2.2.2.2.1) (by first | (rw [add_block]; exact Kd.own_blk (IsS58.own_ne HI188.out HO211.out (by decide))) | (show (Addr.add _ _).block ≠ _; rw [add_block]; exact Kd.own_blk (IsS58.own_ne HI188.out HO211.out (by decide))) | exact Kd.own_blk (IsS58.own_ne HI188.out HO211.out (by decide)) | (have e_ := Kd.own_blk (IsS58.own_ne HI188.out HO211.out (by decide)); exact e_))
             have HS5_ := keep_cell hk (hHeld.2.2.2.2.2.1) (by first | (rw [add_block]; exact Kd.own_blk (IsS58.own_ne HI188.out HO211.out (by decide))) | (show (Addr.add _ _).block ≠ _; rw [add_block]; exact Kd.own_blk (IsS58.own_ne HI188.out HO211.out (by decide))) | exact Kd.own_blk (IsS58.own_ne HI188.out HO211.out (by decide)) | (have e_ := Kd.own_blk (IsS58.own_ne HI188.out HO211.out (by decide)); exact e_))
             have HS6_ := keep_cell hk (hHeld.2.2.2.2.2.2.1) (by first | (rw [add_block]; exact Kd.own_blk (IsS58.own_ne HI188.out HO211.out (by decide))) | (show (Addr.add _ _).block ≠ _; rw [add_block]; exact Kd.own_blk (IsS58.own_ne HI188.out HO211.out (by decide))) | exact Kd.own_blk (IsS58.own_ne HI188.out HO211.out (by decide)) | (have e_ := Kd.own_blk (IsS58.own_ne HI188.out HO211.out (by decide)); exact e_))
             have HS7_ := keep_cell hk (hHeld.2.2.2.2.2.2.2.1) (by first | (rw [add_block]; exact Kd.own_blk (IsS58.own_ne HI188.out HO211.out (by decide))) | (show (Addr.add _ _).block ≠ _; rw [add_block]; exact Kd.own_blk (IsS58.own_ne HI188.out HO211.out (by decide))) | exact Kd.own_blk (IsS58.own_ne HI188.out HO211.out (by decide)) | (have e_ := Kd.own_blk (IsS58.own_ne HI188.out HO211.out (by decide)); exact e_))
             have HS8_ := keep_cell hk (hHeld.2.2.2.2.2.2.2.2.1) (by first | (rw [add_block]; exact Kd.own_blk (IsS58.own_ne HI188.out HO211.out (by decide))) | (show (Addr.add _ _).block ≠ _; rw [add_block]; exact Kd.own_blk (IsS58.own_ne HI188.out HO211.out (by decide))) | exact Kd.own_blk (IsS58.own_ne HI188.out HO211.out (by decide)) | (have e_ := Kd.own_blk (IsS58.own_ne HI188.out HO211.out (by decide)); exact e_))
             have HS9_ := keep_cell hk (hHeld.2.2.2.2.2.2.2.2.2.1) (by first | (rw [add_block]; exact Kd.own_blk (IsS58.own_ne HI188.out HO211.out (by decide))) | (show (Addr.add _ _).block ≠ _; rw [add_block]; exact Kd.own_blk (IsS58.own_ne HI188.out HO211.out (by decide))) | exact Kd.own_blk (IsS58.own_ne HI188.out HO211.out (by decide)) | (have e_ := Kd.own_blk (IsS58.own_ne HI188.out HO211.out (by decide)); exact e_))
             have HS10_ := keep_cell hk (hHeld.2.2.2.2.2.2.2.2.2.2.1) (by first | (rw [add_block]; exact Kd.own_blk (IsS58.own_ne HI188.out HO211.out (by decide))) | (show (Addr.add _ _).block ≠ _; rw [add_block]; exact Kd.own_blk (IsS58.own_ne HI188.out HO211.out (by decide))) | exact Kd.own_blk (IsS58.own_ne HI188.out HO211.out (by decide)) | (have e_ := Kd.own_blk (IsS58.own_ne HI188.out HO211.out (by decide)); exact e_))
             have HS11_ := keep_cell hk (hHeld.2.2.2.2.2.2.2.2.2.2.2) (by first | (rw [add_block]; exact Kd.own_blk (IsS58.own_ne HI188.out HO211.out (by decide))) | (show (Addr.add _ _).block ≠ _; rw [add_block]; exact Kd.own_blk (IsS58.own_ne HI188.out HO211.out (by decide))) | exact Kd.own_blk (IsS58.own_ne HI188.out HO211.out (by decide)) | (have e_ := Kd.own_blk (IsS58.own_ne HI188.out HO211.out (by decide)); exact e_))
             refine ⟨_, rfl, ?_⟩
             have n0_ := Aside0.mk (Kd.R_mono (Kd.R_keep (IsS58.apart (show IsS58 w _ g188 t212 from by repeat (first | (with_reducible first | exact HI188.out | apply IsS58.alloc | apply IsS58.drewN | apply IsS58.drew | apply IsS58.set_0) | exact HI188.out)) (by (with_reducible repeat (first | apply Kd.R_alloc | apply Kd.R_drewN | apply Kd.R_drew)); exact HO211.out) (by decide)) hk (fun _ h => h.2)) (fun _ h => h.1))
             have n1_ := Aside0.mk (hb)
             have n2_ := Aside0.mk (hi)
             clear HO211
             clear HB
             clear HI188
             have HO211 := n0_
             have HB := n1_
             have HI188 := n2_
             clear n0_ n1_ n2_
             (try clear hb)
             (try clear hb2)
             (try clear hk)
             (try clear hi)
             refine hK.out _ _ ⟨HS0_, HS1_, HS2_, HS3_, HS4_, HS5_, HS6_, HS7_, HS8_, HS9_, HS10_, HS11_⟩ (fun hHeld => ?_)
             clear hK K
             refine norm_ (a' := ?_) ?_ ?_
             rotate_left
             ·show Act.put _ (some 109) _ = _
              simp only [Act.put, List.setIfInBounds_toArray, List.set_cons_zero, List.set_cons_succ, i64_w, i32_w]
              rfl
             refine pure_ (i := 34) (N := some 110) (v := ?_) (a' := ?_) #[true, true, true, true, true, true, true, true, true, true, true, true, true, true, true, true, true, true, true, true, true, true, true, true, true, true, true, true, true, true, true, true, true, true, true, false, false, false, false] rfl rfl (any_of HT_.out (by kernel_rfl)) (fun _ _ _ h => h) (Or.inl ⟨by rfl, ?_⟩) ?_ ?_
             rotate_left
             ·intro w'
              go_simp
              with_reducible rfl
             rotate_left
             ·simp only [Act.put, List.setIfInBounds_toArray, List.set_cons_zero, List.set_cons_succ, i64_w, i32_w]
              rfl
             refine pure_ (i := 35) (N := some 111) (v := ?_) (a' := ?_) #[true, true, true, true, true, true, true, true, true, true, true, true, true, true, true, true, true, true, true, true, true, true, true, true, true, true, true, true, true, true, true, true, true, true, true, true, false, false, false] rfl rfl (any_of HT_.out (by kernel_rfl)) (fun _ _ _ h => h) (Or.inl ⟨by rfl, ?_⟩) ?_ ?_
             rotate_left
             ·intro w'
              go_simp
              with_reducible rfl
             rotate_left
             ·simp only [Act.put, List.setIfInBounds_toArray, List.set_cons_zero, List.set_cons_succ, i64_w, i32_w]
              rfl
             refine pure_ (i := 36) (N := some 112) (v := ?_) (a' := ?_) #[true, true, true, true, true, true, true, true, true, true, true, true, true, true, true, true, true, true, true, true, true, true, true, true, true, true, true, true, true, true, true, true, true, true, true, true, true, false, false] rfl rfl (any_of HT_.out (by kernel_rfl)) (fun _ _ _ h => h) (Or.inl ⟨by rfl, ?_⟩) ?_ ?_
             rotate_left
             ·intro w'
              go_simp
              with_reducible rfl
             rotate_left
             ·simp only [Act.put, List.setIfInBounds_toArray, List.set_cons_zero, List.set_cons_succ, i64_w, i32_w]
              rfl
             refine pure_ (i := 37) (N := some 113) (v := ?_) (a' := ?_) #[true, true, true, true, true, true, true, true, true, true, true, true, true, true, true, true, true, true, true, true, true, true, true, true, true, true, true, true, true, true, true, true, true, true, true, true, true, true, false] rfl rfl (any_of HT_.out (by kernel_rfl)) (fun _ _ _ h => h) (Or.inl ⟨by rfl, ?_⟩) ?_ ?_
             rotate_left
             ·intro w'
              go_simp
              with_reducible rfl
             rotate_left
             ·simp only [Act.put, List.setIfInBounds_toArray, List.set_cons_zero, List.set_cons_succ, i64_w, i32_w]
              rfl
             refine pure_ (i := 38) (N := some 2) (v := ?_) (a' := ?_) #[true, true, true, true, true, true, true, true, true, true, true, true, true, true, true, true, true, true, true, true, true, true, true, true, true, true, true, true, true, true, true, true, true, true, true, true, true, true, true] rfl rfl (any_of HT_.out (by kernel_rfl)) (fun _ _ _ h => h) (Or.inl ⟨by rfl, ?_⟩) ?_ ?_
             rotate_left
             ·intro w'
              go_simp
              with_reducible rfl
             rotate_left
             ·simp only [Act.put, List.setIfInBounds_toArray, List.set_cons_zero, List.set_cons_succ, i64_w, i32_w]
              rfl
             refine done_ (done_of HT_.out (by kernel_rfl)) ?_
             try go_wp2
             go_ret
             exact ⟨by first | rfl | (simp [errW_none, errW_some] <;> rfl) | (simp only [← hji68]; first | rfl | (simp [errW_none, errW_some] <;> rfl)) | (simp [*, errW_none, errW_some] <;> rfl), by repeat (first | (with_reducible first | exact HB.out | apply below_alloc | apply pw_below_drewN | apply below_drew1 | refine below_set ?_ (IsS58.ge HI188.out)) | exact HB.out)⟩
            ·rw [if_neg c70] at H
             exact absurd H (by simp)
           ·rw [if_neg c69] at H
            exact absurd H (by simp)
          ·rw [if_neg c67] at H
           exact absurd H (by simp)
         ·rw [if_neg c65] at H
          exact absurd H (by simp)
        ·rw [if_neg c64] at H
         exact absurd H (by simp)
      ·rw [if_neg c40] at H
       exact absurd H (by simp)
  ·replace c5 := Bool.eq_false_iff.mpr c5
   subst c5
   have H1 : (some true) = some r := by rw [if_neg (show ¬ (false = true) by decide)] at H; exact H
   clear H
   have H := H1
   clear H1
   obtain rfl := Option.some.inj H
   go_enter Try.func4, Try.ntmps4
   go_wp2_with (first | ((with_reducible refine gate_callee (f := 10) rfl ?_); refine goesL_ (some 13) rfl rfl Try.func10 (by kernel_rfl) rfl #[] rfl (by (try simp only [List.map_toArray, List.map_cons, List.map_nil]); first | done | rfl | (simp only [List.length_drop, List.length_take]; rfl)) ?_; (with_reducible refine (plenumlaw42_awake.calls k  true _ A2.out).mono ?_); rintro e w78 ⟨rfl, hb⟩; refine ⟨_, rfl, ?_⟩; have n0_ := Aside0.mk (below_step (by repeat (first | (with_reducible first | exact HB.out | apply below_alloc | apply pw_below_drewN | apply below_drew1) | exact HB.out)) hb); clear HB; have HB := n0_; clear n0_; (try clear hb); (try clear hb2); (try clear hk); (try clear hi)) | ((with_reducible refine gate_callee (f := 11) rfl ?_); refine goesL_ (some 16) rfl rfl Try.func11 (by kernel_rfl) rfl #[.slice A0 l0.length c0] rfl (by (try simp only [List.map_toArray, List.map_cons, List.map_nil]); first | done | rfl | (simp only [List.length_drop, List.length_take]; rfl)) ?_; (with_reducible refine (plenumlaw42_small.calls k _ _ l0 false _ ?side1 ?side2 A4.out).mono ?_); (case side1 => repeat (first | exact (Kd.C_below HR0.out HB.out) | (with_reducible refine Kd.C_alloc ?_ _) | (with_reducible refine Kd.C_drewN ?_ _) | (with_reducible refine Kd.C_drew ?_))); (case side2 => exact HC0.out); rintro e w' ⟨rfl, ⟨nd, rfl⟩⟩; refine ⟨_, rfl, ?_⟩))
   go_ret
   exact ⟨by first | rfl | (simp [errW_none, errW_some] <;> rfl) | (simp [*, errW_none, errW_some] <;> rfl), by repeat (first | (with_reducible first | exact HB.out | apply below_alloc | apply pw_below_drewN | apply below_drew1) | exact HB.out)⟩
 ·replace c3 := Bool.eq_false_iff.mpr c3
  subst c3
  have H1 : (some false) = some r := by rw [if_neg (show ¬ (false = true) by decide)] at H; exact H
  clear H
  have H := H1
  clear H1
  obtain rfl := Option.some.inj H
  go_enter Try.func4, Try.ntmps4
  go_wp2_with (first | ((with_reducible refine gate_callee (f := 10) rfl ?_); refine goesL_ (some 13) rfl rfl Try.func10 (by kernel_rfl) rfl #[] rfl (by (try simp only [List.map_toArray, List.map_cons, List.map_nil]); first | done | rfl | (simp only [List.length_drop, List.length_take]; rfl)) ?_; (with_reducible refine (plenumlaw42_awake.calls k  false _ A2.out).mono ?_); rintro e w79 ⟨rfl, hb⟩; refine ⟨_, rfl, ?_⟩; have n0_ := Aside0.mk (below_step (by repeat (first | (with_reducible first | exact HB.out | apply below_alloc | apply pw_below_drewN | apply below_drew1) | exact HB.out)) hb); clear HB; have HB := n0_; clear n0_; (try clear hb); (try clear hb2); (try clear hk); (try clear hi)))
  go_ret
  exact ⟨by first | rfl | (simp [errW_none, errW_some] <;> rfl) | (simp [*, errW_none, errW_some] <;> rfl), by repeat (first | (with_reducible first | exact HB.out | apply below_alloc | apply pw_below_drewN | apply below_drew1) | exact HB.out)⟩

end Go.Proofs.Yteclemahimldeaa.S
