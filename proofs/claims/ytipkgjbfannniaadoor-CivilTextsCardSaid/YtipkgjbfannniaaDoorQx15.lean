-- Written by pp.py (a program of this session, over the kit's print.py) out of the translation. Not trusted: Lean checks it.
import Derived.Test.YtipkgjbfannniaaDoorQx0
import Derived.Test.YtipkgjbfannniaaDoorQx1
import Derived.Test.YtipkgjbfannniaaDoorQx6
import Derived.Test.YtipkgjbfannniaaDoorQx7
import Derived.Test.YtipkgjbfannniaaDoorQx13
import Derived.Test.YtipkgjbfannniaaDoorQx14
namespace Go.Proofs.YtipkgjbfannniaaDoor.Q
open Go.RowKit Go.Proofs.YtipkgjbfannniaaDoorW.PrintWords Go.Proofs.YtipkgjbfannniaaDoorW.PrintLast Go.Proofs.YtipkgjbfannniaaDoorW.PrintMore
attribute [local go_sem] max2_int min2_int max_two min_two max_three min_three max_four min_four   -- for this text's walks alone
attribute [local go_sem] pp_mod256 pp_mod256_w
set_option linter.unusedVariables false
set_option linter.unusedSimpArgs false

attribute [local go_sem high] eqA23
/-! ### plenumlaw05_CivilTexts: function 7 -/
mutual
def plenumlaw05_CivilTexts.j0 : Nat → Int → ByteArray → Int → Bool → Option (Bool)
  | 0, _, _, _, _ => none
  | k + 1, x1, x13, x14, x64 => if x64 = true then (some false) else (if x1 < 0 then (plenumlaw05_CivilTexts.j1 k x1 x13 x14 true) else (plenumlaw05_CivilTexts.j1 k x1 x13 x14 (decide (x1 ≥ 1440))))
def plenumlaw05_CivilTexts.j1 : Nat → Int → ByteArray → Int → Bool → Option (Bool)
  | 0, _, _, _, _ => none
  | k + 1, x1, x13, x14, x70 => if x70 = true then (if x14 = 6 then (some (x13.toList == ([] : List UInt8))) else (some false)) else ((civil_ParseClock.f k x13).bind fun bt318 => (if x14 = 0 then ((plenumref05_Clock.f x1).bind fun t320 => (if x13.toList = t320.toList then (if bt318.2 = 0 then (some (bt318.1 == x1)) else (some false)) else (some false))) else (some false)))
end
def plenumlaw05_CivilTexts.f (k : Nat) (a0 : ByteArray) (a1 : Int) : Option (Bool) := (plenumlaw05_awake.f k).bind fun t301 => (if t301 = true then (if (a0.size : Int) > 100 then (some true) else ((civil_Parse.f k a0).bind fun bt302 => ((plenumref05_Parse.f k a0).bind fun bt307 => ((civil_ParseClock.f k a0).bind fun bt312 => ((plenumref05_ParseClock.f k a0).bind fun bt314 => ((civil_Clock.f k a1).bind fun bt316 => (if (!(bt302.1 == bt307.1) || (!(bt302.2.1 == bt307.2.1) || (!(bt302.2.2.1 == bt307.2.2.1)))) = true then (plenumlaw05_CivilTexts.j0 k a1 bt316.1 bt316.2 true) else (if bt302.2.2.2 = bt307.2.2.2 then (if bt312.1 = bt314.1 then (plenumlaw05_CivilTexts.j0 k a1 bt316.1 bt316.2 (bt312.2 != bt314.2)) else (plenumlaw05_CivilTexts.j0 k a1 bt316.1 bt316.2 true)) else (plenumlaw05_CivilTexts.j0 k a1 bt316.1 bt316.2 true))))))))) else (some false))
theorem plenumlaw05_CivilTexts.mono_l : ∀ k, (∀ y0 y1 y2 y3, LeO (plenumlaw05_CivilTexts.j0 k y0 y1 y2 y3) (plenumlaw05_CivilTexts.j0 (k + 1) y0 y1 y2 y3)) ∧ (∀ y0 y1 y2 y3, LeO (plenumlaw05_CivilTexts.j1 k y0 y1 y2 y3) (plenumlaw05_CivilTexts.j1 (k + 1) y0 y1 y2 y3))
  | 0 => ⟨fun _ _ _ _ r h => by simp [plenumlaw05_CivilTexts.j0] at h, fun _ _ _ _ r h => by simp [plenumlaw05_CivilTexts.j1] at h⟩
  | k + 1 => by
    obtain ⟨ih0, ih1⟩ := plenumlaw05_CivilTexts.mono_l k
    refine ⟨?_, ?_⟩
    · intro y0 y1 y2 y3
      unfold plenumlaw05_CivilTexts.j0
      repeat' first
      | (with_reducible exact ih0 _ _ _ _)
      | (with_reducible exact ih1 _ _ _ _)
      | (with_reducible exact civil_Clock.mono _ _)
      | (with_reducible exact civil_Parse.mono _ _)
      | (with_reducible exact civil_ParseClock.mono _ _)
      | (with_reducible exact plenumlaw05_awake.mono _)
      | (with_reducible exact plenumref05_Parse.mono _ _)
      | (with_reducible exact plenumref05_ParseClock.mono _ _)
      | (with_reducible exact LeO.refl _)
      | (with_reducible exact LeO.none _)
      | (with_reducible refine LeO.ite ?_ ?_)
      | (with_reducible refine LeO.bind ?_ (fun _ => ?_))
      | exact ih0 _ _ _ _
      | exact ih1 _ _ _ _
      | exact civil_Clock.mono _ _
      | exact civil_Parse.mono _ _
      | exact civil_ParseClock.mono _ _
      | exact plenumlaw05_awake.mono _
      | exact plenumref05_Parse.mono _ _
      | exact plenumref05_ParseClock.mono _ _
      | exact LeO.none _
      | refine LeO.ite ?_ ?_
      | refine LeO.bind ?_ (fun _ => ?_)
    · intro y0 y1 y2 y3
      unfold plenumlaw05_CivilTexts.j1
      repeat' first
      | (with_reducible exact ih0 _ _ _ _)
      | (with_reducible exact ih1 _ _ _ _)
      | (with_reducible exact civil_Clock.mono _ _)
      | (with_reducible exact civil_Parse.mono _ _)
      | (with_reducible exact civil_ParseClock.mono _ _)
      | (with_reducible exact plenumlaw05_awake.mono _)
      | (with_reducible exact plenumref05_Parse.mono _ _)
      | (with_reducible exact plenumref05_ParseClock.mono _ _)
      | (with_reducible exact LeO.refl _)
      | (with_reducible exact LeO.none _)
      | (with_reducible refine LeO.ite ?_ ?_)
      | (with_reducible refine LeO.bind ?_ (fun _ => ?_))
      | exact ih0 _ _ _ _
      | exact ih1 _ _ _ _
      | exact civil_Clock.mono _ _
      | exact civil_Parse.mono _ _
      | exact civil_ParseClock.mono _ _
      | exact plenumlaw05_awake.mono _
      | exact plenumref05_Parse.mono _ _
      | exact plenumref05_ParseClock.mono _ _
      | exact LeO.none _
      | refine LeO.ite ?_ ?_
      | refine LeO.bind ?_ (fun _ => ?_)
theorem plenumlaw05_CivilTexts.mono : ∀ a0 a1 k, LeO (plenumlaw05_CivilTexts.f k a0 a1) (plenumlaw05_CivilTexts.f (k + 1) a0 a1) := by
  intro a0 a1 k
  obtain ⟨ih0, ih1⟩ := plenumlaw05_CivilTexts.mono_l k
  unfold plenumlaw05_CivilTexts.f
  repeat' first
      | (with_reducible exact ih0 _ _ _ _)
      | (with_reducible exact ih1 _ _ _ _)
      | (with_reducible exact civil_Clock.mono _ _)
      | (with_reducible exact civil_Parse.mono _ _)
      | (with_reducible exact civil_ParseClock.mono _ _)
      | (with_reducible exact plenumlaw05_awake.mono _)
      | (with_reducible exact plenumref05_Parse.mono _ _)
      | (with_reducible exact plenumref05_ParseClock.mono _ _)
      | (with_reducible exact LeO.refl _)
      | (with_reducible exact LeO.none _)
      | (with_reducible refine LeO.ite ?_ ?_)
      | (with_reducible refine LeO.bind ?_ (fun _ => ?_))
      | exact ih0 _ _ _ _
      | exact ih1 _ _ _ _
      | exact civil_Clock.mono _ _
      | exact civil_Parse.mono _ _
      | exact civil_ParseClock.mono _ _
      | exact plenumlaw05_awake.mono _
      | exact plenumref05_Parse.mono _ _
      | exact plenumref05_ParseClock.mono _ _
      | exact LeO.none _
      | refine LeO.ite ?_ ?_
      | refine LeO.bind ?_ (fun _ => ?_)
set_option maxHeartbeats 8000000 in
set_option maxRecDepth 100000 in
theorem plenumlaw05_CivilTexts.calls (k : Nat) (a0 : ByteArray) (a1 : Int) (r : Bool) (w : World) (hLen : LenAt w) (h : plenumlaw05_CivilTexts.f k a0 a1 = some r) :
    Calls Tryd.prog 7 #[.string a0, .int .i64 a1] w fun e w' => e = .returned (.bool r) ∧ Below w.heap.size w w' := by
  have HLEN := Aside0.mk hLen
  clear hLen
  have hu23 := Tryd.underlying23
  have HB := Aside0.mk (Below.refl w.heap.size w)
  have H : ((plenumlaw05_awake.f k).bind fun t301 => (if t301 = true then (if (a0.size : Int) > 100 then (some true) else ((civil_Parse.f k a0).bind fun bt302 => ((plenumref05_Parse.f k a0).bind fun bt307 => ((civil_ParseClock.f k a0).bind fun bt312 => ((plenumref05_ParseClock.f k a0).bind fun bt314 => ((civil_Clock.f k a1).bind fun bt316 => (if (!(bt302.1 == bt307.1) || (!(bt302.2.1 == bt307.2.1) || (!(bt302.2.2.1 == bt307.2.2.1)))) = true then (plenumlaw05_CivilTexts.j0 k a1 bt316.1 bt316.2 true) else (if bt302.2.2.2 = bt307.2.2.2 then (if bt312.1 = bt314.1 then (plenumlaw05_CivilTexts.j0 k a1 bt316.1 bt316.2 (bt312.2 != bt314.2)) else (plenumlaw05_CivilTexts.j0 k a1 bt316.1 bt316.2 true)) else (plenumlaw05_CivilTexts.j0 k a1 bt316.1 bt316.2 true))))))))) else (some false))) = some r := h
  clear h
  replace H := Option.bind_eq_some_iff.mp H
  obtain ⟨t301, A30, H⟩ := H
  replace H : (if t301 = true then (if (a0.size : Int) > 100 then (some true) else ((civil_Parse.f k a0).bind fun bt302 => ((plenumref05_Parse.f k a0).bind fun bt307 => ((civil_ParseClock.f k a0).bind fun bt312 => ((plenumref05_ParseClock.f k a0).bind fun bt314 => ((civil_Clock.f k a1).bind fun bt316 => (if (!(bt302.1 == bt307.1) || (!(bt302.2.1 == bt307.2.1) || (!(bt302.2.2.1 == bt307.2.2.1)))) = true then (plenumlaw05_CivilTexts.j0 k a1 bt316.1 bt316.2 true) else (if bt302.2.2.2 = bt307.2.2.2 then (if bt312.1 = bt314.1 then (plenumlaw05_CivilTexts.j0 k a1 bt316.1 bt316.2 (bt312.2 != bt314.2)) else (plenumlaw05_CivilTexts.j0 k a1 bt316.1 bt316.2 true)) else (plenumlaw05_CivilTexts.j0 k a1 bt316.1 bt316.2 true))))))))) else (some false)) = some r := H
  have A3 := Aside0.mk A30
  clear A30
  by_cases c4 : t301 = true
  · subst c4
    have H1 : (if (a0.size : Int) > 100 then (some true) else ((civil_Parse.f k a0).bind fun bt302 => ((plenumref05_Parse.f k a0).bind fun bt307 => ((civil_ParseClock.f k a0).bind fun bt312 => ((plenumref05_ParseClock.f k a0).bind fun bt314 => ((civil_Clock.f k a1).bind fun bt316 => (if (!(bt302.1 == bt307.1) || (!(bt302.2.1 == bt307.2.1) || (!(bt302.2.2.1 == bt307.2.2.1)))) = true then (plenumlaw05_CivilTexts.j0 k a1 bt316.1 bt316.2 true) else (if bt302.2.2.2 = bt307.2.2.2 then (if bt312.1 = bt314.1 then (plenumlaw05_CivilTexts.j0 k a1 bt316.1 bt316.2 (bt312.2 != bt314.2)) else (plenumlaw05_CivilTexts.j0 k a1 bt316.1 bt316.2 true)) else (plenumlaw05_CivilTexts.j0 k a1 bt316.1 bt316.2 true))))))))) = some r := by rw [if_pos rfl] at H; exact H
    clear H
    have H := H1
    clear H1
    by_cases c5 : (a0.size : Int) > 100
    · rw [if_pos c5] at H
      have c5b0 : decide (100 < (a0.size : Int)) = true := decide_eq_true c5
      have c5b1 : decide (100 < a0.size) = true := decide_eq_true (by omega)
      clear c5
      obtain rfl := Option.some.inj H
      go_enter Tryd.func7, Tryd.ntmps7
      go_wp2_with (first | ((with_reducible refine gate_callee (f := 11) rfl ?_); refine goesL_ (some 17) rfl rfl Tryd.func11 (by kernel_rfl) rfl #[] rfl (by (try simp only [List.map_toArray, List.map_cons, List.map_nil]); first | done | rfl | (simp only [List.length_drop, List.length_take]; rfl)) ?_; (with_reducible refine (plenumlaw05_awake.calls k  true _ ?sideLen A3.out).mono ?_); (case sideLen => exact LenAt.below HLEN.out (by repeat (first | (with_reducible first | exact HB.out | apply below_alloc | apply pw_below_drewN | apply below_drew1 | refine below_set ?_ GE306.out | refine below_set ?_ GE311.out) | exact HB.out))); rintro e w6 ⟨rfl, hb⟩; refine ⟨_, rfl, ?_⟩; have n0_ := Aside0.mk (below_step (by repeat (first | (with_reducible first | exact HB.out | apply below_alloc | apply pw_below_drewN | apply below_drew1) | exact HB.out)) hb); clear HB; have HB := n0_; clear n0_; (try clear hb); (try clear hb2); (try clear hk); (try clear hi)))
      go_ret
      exact ⟨by first | rfl | (simp [errW_none, errW_some] <;> rfl) | (simp [*, errW_none, errW_some] <;> rfl), by repeat (first | (with_reducible first | exact HB.out | apply below_alloc | apply pw_below_drewN | apply below_drew1) | exact HB.out)⟩
    · rw [if_neg c5] at H
      have c5b0 : decide (100 < (a0.size : Int)) = false := decide_eq_false c5
      have c5b1 : decide (100 < a0.size) = false := decide_eq_false (by omega)
      clear c5
      replace H := Option.bind_eq_some_iff.mp H
      obtain ⟨⟨t302, t303, t304, t305⟩, A70, H⟩ := H
      replace H : ((plenumref05_Parse.f k a0).bind fun bt307 => ((civil_ParseClock.f k a0).bind fun bt312 => ((plenumref05_ParseClock.f k a0).bind fun bt314 => ((civil_Clock.f k a1).bind fun bt316 => (if (!(t302 == bt307.1) || (!(t303 == bt307.2.1) || (!(t304 == bt307.2.2.1)))) = true then (plenumlaw05_CivilTexts.j0 k a1 bt316.1 bt316.2 true) else (if t305 = bt307.2.2.2 then (if bt312.1 = bt314.1 then (plenumlaw05_CivilTexts.j0 k a1 bt316.1 bt316.2 (bt312.2 != bt314.2)) else (plenumlaw05_CivilTexts.j0 k a1 bt316.1 bt316.2 true)) else (plenumlaw05_CivilTexts.j0 k a1 bt316.1 bt316.2 true))))))) = some r := H
      have A7 := Aside0.mk A70
      clear A70
      replace H := Option.bind_eq_some_iff.mp H
      obtain ⟨⟨t307, t308, t309, t310⟩, A80, H⟩ := H
      replace H : ((civil_ParseClock.f k a0).bind fun bt312 => ((plenumref05_ParseClock.f k a0).bind fun bt314 => ((civil_Clock.f k a1).bind fun bt316 => (if (!(t302 == t307) || (!(t303 == t308) || (!(t304 == t309)))) = true then (plenumlaw05_CivilTexts.j0 k a1 bt316.1 bt316.2 true) else (if t305 = t310 then (if bt312.1 = bt314.1 then (plenumlaw05_CivilTexts.j0 k a1 bt316.1 bt316.2 (bt312.2 != bt314.2)) else (plenumlaw05_CivilTexts.j0 k a1 bt316.1 bt316.2 true)) else (plenumlaw05_CivilTexts.j0 k a1 bt316.1 bt316.2 true)))))) = some r := H
      have A8 := Aside0.mk A80
      clear A80
      replace H := Option.bind_eq_some_iff.mp H
      obtain ⟨⟨t312, t313⟩, A90, H⟩ := H
      replace H : ((plenumref05_ParseClock.f k a0).bind fun bt314 => ((civil_Clock.f k a1).bind fun bt316 => (if (!(t302 == t307) || (!(t303 == t308) || (!(t304 == t309)))) = true then (plenumlaw05_CivilTexts.j0 k a1 bt316.1 bt316.2 true) else (if t305 = t310 then (if t312 = bt314.1 then (plenumlaw05_CivilTexts.j0 k a1 bt316.1 bt316.2 (t313 != bt314.2)) else (plenumlaw05_CivilTexts.j0 k a1 bt316.1 bt316.2 true)) else (plenumlaw05_CivilTexts.j0 k a1 bt316.1 bt316.2 true))))) = some r := H
      have A9 := Aside0.mk A90
      clear A90
      replace H := Option.bind_eq_some_iff.mp H
      obtain ⟨⟨t314, t315⟩, A100, H⟩ := H
      replace H : ((civil_Clock.f k a1).bind fun bt316 => (if (!(t302 == t307) || (!(t303 == t308) || (!(t304 == t309)))) = true then (plenumlaw05_CivilTexts.j0 k a1 bt316.1 bt316.2 true) else (if t305 = t310 then (if t312 = t314 then (plenumlaw05_CivilTexts.j0 k a1 bt316.1 bt316.2 (t313 != t315)) else (plenumlaw05_CivilTexts.j0 k a1 bt316.1 bt316.2 true)) else (plenumlaw05_CivilTexts.j0 k a1 bt316.1 bt316.2 true)))) = some r := H
      have A10 := Aside0.mk A100
      clear A100
      replace H := Option.bind_eq_some_iff.mp H
      obtain ⟨⟨t316, t317⟩, A110, H⟩ := H
      replace H : (if (!(t302 == t307) || (!(t303 == t308) || (!(t304 == t309)))) = true then (plenumlaw05_CivilTexts.j0 k a1 t316 t317 true) else (if t305 = t310 then (if t312 = t314 then (plenumlaw05_CivilTexts.j0 k a1 t316 t317 (t313 != t315)) else (plenumlaw05_CivilTexts.j0 k a1 t316 t317 true)) else (plenumlaw05_CivilTexts.j0 k a1 t316 t317 true))) = some r := H
      have A11 := Aside0.mk A110
      clear A110
      have HC12 := Aside0.mk H
      clear H
      go_enter Tryd.func7, Tryd.ntmps7
      go_upto_region 10 with (first | ((with_reducible refine gate_callee (f := 11) rfl ?_); refine goesL_ (some 17) rfl rfl Tryd.func11 (by kernel_rfl) rfl #[] rfl (by (try simp only [List.map_toArray, List.map_cons, List.map_nil]); first | done | rfl | (simp only [List.length_drop, List.length_take]; rfl)) ?_; (with_reducible refine (plenumlaw05_awake.calls k  true _ ?sideLen A3.out).mono ?_); (case sideLen => exact LenAt.below HLEN.out (by repeat (first | (with_reducible first | exact HB.out | apply below_alloc | apply pw_below_drewN | apply below_drew1 | refine below_set ?_ GE306.out | refine below_set ?_ GE311.out) | exact HB.out))); rintro e w13 ⟨rfl, hb⟩; refine ⟨_, rfl, ?_⟩; have n0_ := Aside0.mk (below_step (by repeat (first | (with_reducible first | exact HB.out | apply below_alloc | apply pw_below_drewN | apply below_drew1) | exact HB.out)) hb); clear HB; have HB := n0_; clear n0_; (try clear hb); (try clear hb2); (try clear hk); (try clear hi)) | ((with_reducible refine gate_callee (f := 32) rfl ?_); refine goesL_ (some 24) rfl rfl Tryd.func32 (by kernel_rfl) rfl #[.string a0] rfl (by (try simp only [List.map_toArray, List.map_cons, List.map_nil]); first | done | rfl | (simp only [List.length_drop, List.length_take]; rfl)) ?_; (with_reducible refine (civil_Parse.calls k a0 t302 t303 t304 t305 _ ?sideLen A7.out).mono ?_); (case sideLen => exact LenAt.below HLEN.out (by repeat (first | (with_reducible first | exact HB.out | apply below_alloc | apply pw_below_drewN | apply below_drew1 | refine below_set ?_ GE306.out | refine below_set ?_ GE311.out) | exact HB.out))); rintro e w14 ⟨rfl, hb⟩; refine ⟨_, rfl, ?_⟩; have n0_ := Aside0.mk (below_step (by repeat (first | (with_reducible first | exact HB.out | apply below_alloc | apply pw_below_drewN | apply below_drew1) | exact HB.out)) hb); clear HB; have HB := n0_; clear n0_; (try clear hb); (try clear hb2); (try clear hk); (try clear hi)) | ((with_reducible refine gate_dst (N := 5) rfl ?_); refine box_event ?hg (N := 5) ?hd (cs := #[.int .i64 0, .int .i64 0, .int .i64 0]) (t := 23) ?hr ?_; (case hd => rfl); (case hg => rfl); (case hr => first | (go_simp; done) | (go_simp; rfl)); intro gb306 hg w15 hbox hb; have n0_ := Aside0.mk (below_step (by repeat (first | (with_reducible first | exact HB.out | apply below_alloc | apply pw_below_drewN | apply below_drew1) | exact HB.out)) hb); have n1_ := Aside0.mk (hbox); have n2_ := Aside0.mk ((by rw [hg]; exact (below_size (by repeat (first | (with_reducible first | exact HB.out | apply below_alloc | apply pw_below_drewN | apply below_drew1) | exact HB.out))) : w.heap.size ≤ gb306)); have n3_ := Aside0.mk ((by rw [hg]; exact (below_size (by repeat (first | (with_reducible first | exact HB.out | apply below_alloc | apply pw_below_drewN | apply below_drew1) | exact HB.out))) : w.heap.size ≤ gb306)); clear HB; have HB := n0_; have BK306 := n1_; have GW306 := n2_; have GE306 := n3_; clear n0_ n1_ n2_ n3_; clear hb hbox hg; have hcz16_0 : w15.cell? ⟨gb306, 0, none⟩ = some (.int .i64 0) := (blk_cell BK306.out 0).trans rfl; have hcz16_1 : w15.cell? ⟨gb306, 1, none⟩ = some (.int .i64 0) := (blk_cell BK306.out 1).trans rfl; have hcz16_2 : w15.cell? ⟨gb306, 2, none⟩ = some (.int .i64 0) := (blk_cell BK306.out 2).trans rfl; have hfz16_0 := blk_frozen BK306.out 0; have hfz16_1 := blk_frozen BK306.out 1; have hfz16_2 := blk_frozen BK306.out 2) | ((with_reducible refine gate_callee (f := 33) rfl ?_); refine goesL_ (some 29) rfl rfl Tryd.func33 (by kernel_rfl) rfl #[.string a0] rfl (by (try simp only [List.map_toArray, List.map_cons, List.map_nil]); first | done | rfl | (simp only [List.length_drop, List.length_take]; rfl)) ?_; (with_reducible refine (plenumref05_Parse.calls k a0 t307 t308 t309 t310 _ A8.out).mono ?_); rintro e w17 ⟨rfl, hb⟩; refine ⟨_, rfl, ?_⟩; have n0_ := Aside0.mk (blk_below (g := gb306) (o := .cells #[.int .i64 t302, .int .i64 t303, .int .i64 t304] 23 (0, 0)) (by (with_reducible repeat (first | refine blk_drewN ?_ _ | refine blk_drew ?_ | refine blk_alloc ?_ _)); refine blk_put (cs := #[.int .i64 t302, .int .i64 t303, .int .i64 0]) ?_ 2 _ rfl; (with_reducible repeat (first | refine blk_drewN ?_ _ | refine blk_drew ?_ | refine blk_alloc ?_ _)); refine blk_put (cs := #[.int .i64 t302, .int .i64 0, .int .i64 0]) ?_ 1 _ rfl; (with_reducible repeat (first | refine blk_drewN ?_ _ | refine blk_drew ?_ | refine blk_alloc ?_ _)); refine blk_put (cs := #[.int .i64 0, .int .i64 0, .int .i64 0]) ?_ 0 _ rfl; (with_reducible repeat (first | refine blk_drewN ?_ _ | refine blk_drew ?_ | refine blk_alloc ?_ _)); exact BK306.out) hb); have n1_ := Aside0.mk (below_step (by repeat (first | (with_reducible first | exact HB.out | apply below_alloc | apply pw_below_drewN | apply below_drew1 | refine below_set ?_ GE306.out) | exact HB.out)) hb); clear BK306; clear HB; have BK306 := n0_; have HB := n1_; clear n0_ n1_; (try clear hb); (try clear hb2); (try clear hk); (try clear hi)) | ((with_reducible refine gate_dst (N := 7) rfl ?_); refine box_event ?hg (N := 7) ?hd (cs := #[.int .i64 0, .int .i64 0, .int .i64 0]) (t := 23) ?hr ?_; (case hd => rfl); (case hg => rfl); (case hr => first | (go_simp; done) | (go_simp; rfl)); intro gb311 hg w18 hbox hb; have n0_ := Aside0.mk (blk_below (g := gb306) (o := .cells #[.int .i64 t302, .int .i64 t303, .int .i64 t304] 23 (0, 0)) (by (with_reducible repeat (first | refine blk_drewN ?_ _ | refine blk_drew ?_ | refine blk_alloc ?_ _)); exact BK306.out) hb); have n1_ := Aside0.mk (below_step (by repeat (first | (with_reducible first | exact HB.out | apply below_alloc | apply pw_below_drewN | apply below_drew1 | refine below_set ?_ GE306.out) | exact HB.out)) hb); have n2_ := Aside0.mk (hbox); have n3_ := Aside0.mk ((by rw [hg]; exact (below_size (by repeat (first | (with_reducible first | exact HB.out | apply below_alloc | apply pw_below_drewN | apply below_drew1 | refine below_set ?_ GE306.out) | exact HB.out))) : w.heap.size ≤ gb311)); have n4_ := Aside0.mk ((by rw [hg]; exact (below_size (by repeat (first | (with_reducible first | exact HB.out | apply below_alloc | apply pw_below_drewN | apply below_drew1 | refine below_set ?_ GE306.out) | exact HB.out))) : w.heap.size ≤ gb311)); have n5_ := Aside0.mk ((by rw [hg]; exact Nat.ne_of_lt (blk_lt (g := gb306) (o := .cells #[.int .i64 t302, .int .i64 t303, .int .i64 t304] 23 (0, 0)) (by (with_reducible repeat (first | refine blk_drewN ?_ _ | refine blk_drew ?_ | refine blk_alloc ?_ _)); exact BK306.out)) : gb306 ≠ gb311)); have n6_ := Aside0.mk ((by rw [hg]; exact Nat.ne_of_gt (blk_lt (g := gb306) (o := .cells #[.int .i64 t302, .int .i64 t303, .int .i64 t304] 23 (0, 0)) (by (with_reducible repeat (first | refine blk_drewN ?_ _ | refine blk_drew ?_ | refine blk_alloc ?_ _)); exact BK306.out)) : gb311 ≠ gb306)); clear BK306; clear HB; have BK306 := n0_; have HB := n1_; have BK311 := n2_; have GW311 := n3_; have GE311 := n4_; have NB306_311 := n5_; have NB311_306 := n6_; clear n0_ n1_ n2_ n3_ n4_ n5_ n6_; clear hb hbox hg; have hnb19 := NB311_306.out; have hnc19 := NB306_311.out; have hcz20_0 : w18.cell? ⟨gb311, 0, none⟩ = some (.int .i64 0) := (blk_cell BK311.out 0).trans rfl; have hcz20_1 : w18.cell? ⟨gb311, 1, none⟩ = some (.int .i64 0) := (blk_cell BK311.out 1).trans rfl; have hcz20_2 : w18.cell? ⟨gb311, 2, none⟩ = some (.int .i64 0) := (blk_cell BK311.out 2).trans rfl; have hfz20_0 := blk_frozen BK311.out 0; have hfz20_1 := blk_frozen BK311.out 1; have hfz20_2 := blk_frozen BK311.out 2) | ((with_reducible refine gate_callee (f := 34) rfl ?_); refine goesL_ (some 34) rfl rfl Tryd.func34 (by kernel_rfl) rfl #[.string a0] rfl (by (try simp only [List.map_toArray, List.map_cons, List.map_nil]); first | done | rfl | (simp only [List.length_drop, List.length_take]; rfl)) ?_; (with_reducible refine (civil_ParseClock.calls k a0 t312 t313 _ A9.out).mono ?_); rintro e w21 ⟨rfl, hb⟩; refine ⟨_, rfl, ?_⟩; have n0_ := Aside0.mk (blk_below (g := gb306) (o := .cells #[.int .i64 t302, .int .i64 t303, .int .i64 t304] 23 (0, 0)) (by (with_reducible repeat (first | refine blk_drewN ?_ _ | refine blk_drew ?_ | refine blk_alloc ?_ _)); refine blk_far ?_ NB306_311.out _; (with_reducible repeat (first | refine blk_drewN ?_ _ | refine blk_drew ?_ | refine blk_alloc ?_ _)); refine blk_far ?_ NB306_311.out _; (with_reducible repeat (first | refine blk_drewN ?_ _ | refine blk_drew ?_ | refine blk_alloc ?_ _)); refine blk_far ?_ NB306_311.out _; (with_reducible repeat (first | refine blk_drewN ?_ _ | refine blk_drew ?_ | refine blk_alloc ?_ _)); exact BK306.out) hb); have n1_ := Aside0.mk (blk_below (g := gb311) (o := .cells #[.int .i64 t307, .int .i64 t308, .int .i64 t309] 23 (0, 0)) (by (with_reducible repeat (first | refine blk_drewN ?_ _ | refine blk_drew ?_ | refine blk_alloc ?_ _)); refine blk_put (cs := #[.int .i64 t307, .int .i64 t308, .int .i64 0]) ?_ 2 _ rfl; (with_reducible repeat (first | refine blk_drewN ?_ _ | refine blk_drew ?_ | refine blk_alloc ?_ _)); refine blk_put (cs := #[.int .i64 t307, .int .i64 0, .int .i64 0]) ?_ 1 _ rfl; (with_reducible repeat (first | refine blk_drewN ?_ _ | refine blk_drew ?_ | refine blk_alloc ?_ _)); refine blk_put (cs := #[.int .i64 0, .int .i64 0, .int .i64 0]) ?_ 0 _ rfl; (with_reducible repeat (first | refine blk_drewN ?_ _ | refine blk_drew ?_ | refine blk_alloc ?_ _)); exact BK311.out) hb); have n2_ := Aside0.mk (below_step (by repeat (first | (with_reducible first | exact HB.out | apply below_alloc | apply pw_below_drewN | apply below_drew1 | refine below_set ?_ GE306.out | refine below_set ?_ GE311.out) | exact HB.out)) hb); clear BK306; clear BK311; clear HB; have BK306 := n0_; have BK311 := n1_; have HB := n2_; clear n0_ n1_ n2_; (try clear hb); (try clear hb2); (try clear hk); (try clear hi)) | ((with_reducible refine gate_callee (f := 35) rfl ?_); refine goesL_ (some 39) rfl rfl Tryd.func35 (by kernel_rfl) rfl #[.string a0] rfl (by (try simp only [List.map_toArray, List.map_cons, List.map_nil]); first | done | rfl | (simp only [List.length_drop, List.length_take]; rfl)) ?_; (with_reducible refine (plenumref05_ParseClock.calls k a0 t314 t315 _ A10.out).mono ?_); rintro e w22 ⟨rfl, hb⟩; refine ⟨_, rfl, ?_⟩; have n0_ := Aside0.mk (blk_below (g := gb306) (o := .cells #[.int .i64 t302, .int .i64 t303, .int .i64 t304] 23 (0, 0)) (by (with_reducible repeat (first | refine blk_drewN ?_ _ | refine blk_drew ?_ | refine blk_alloc ?_ _)); exact BK306.out) hb); have n1_ := Aside0.mk (blk_below (g := gb311) (o := .cells #[.int .i64 t307, .int .i64 t308, .int .i64 t309] 23 (0, 0)) (by (with_reducible repeat (first | refine blk_drewN ?_ _ | refine blk_drew ?_ | refine blk_alloc ?_ _)); exact BK311.out) hb); have n2_ := Aside0.mk (below_step (by repeat (first | (with_reducible first | exact HB.out | apply below_alloc | apply pw_below_drewN | apply below_drew1 | refine below_set ?_ GE306.out | refine below_set ?_ GE311.out) | exact HB.out)) hb); clear BK306; clear BK311; clear HB; have BK306 := n0_; have BK311 := n1_; have HB := n2_; clear n0_ n1_ n2_; (try clear hb); (try clear hb2); (try clear hk); (try clear hi)) | ((with_reducible refine gate_callee (f := 36) rfl ?_); refine goesL_ (some 44) rfl rfl Tryd.func36 (by kernel_rfl) rfl #[.int .i64 a1] rfl (by (try simp only [List.map_toArray, List.map_cons, List.map_nil]); first | done | rfl | (simp only [List.length_drop, List.length_take]; rfl)) ?_; (with_reducible refine (civil_Clock.calls k a1 t316 t317 _ A11.out).mono ?_); rintro e w23 ⟨rfl, hb⟩; refine ⟨_, rfl, ?_⟩; have n0_ := Aside0.mk (blk_below (g := gb306) (o := .cells #[.int .i64 t302, .int .i64 t303, .int .i64 t304] 23 (0, 0)) (by (with_reducible repeat (first | refine blk_drewN ?_ _ | refine blk_drew ?_ | refine blk_alloc ?_ _)); exact BK306.out) hb); have n1_ := Aside0.mk (blk_below (g := gb311) (o := .cells #[.int .i64 t307, .int .i64 t308, .int .i64 t309] 23 (0, 0)) (by (with_reducible repeat (first | refine blk_drewN ?_ _ | refine blk_drew ?_ | refine blk_alloc ?_ _)); exact BK311.out) hb); have n2_ := Aside0.mk (below_step (by repeat (first | (with_reducible first | exact HB.out | apply below_alloc | apply pw_below_drewN | apply below_drew1 | refine below_set ?_ GE306.out | refine below_set ?_ GE311.out) | exact HB.out)) hb); clear BK306; clear BK311; clear HB; have BK306 := n0_; have BK311 := n1_; have HB := n2_; clear n0_ n1_ n2_; (try clear hb); (try clear hb2); (try clear hk); (try clear hi)))
      (try simp only [Act.put, List.setIfInBounds_toArray, List.set_cons_zero, List.set_cons_succ])
      go_cut [64] (fun v64 wc => ∃ (kq : Nat) (x64_11 : Bool), v64 = .bool x64_11 ∧ Aside0 (plenumlaw05_CivilTexts.j0 kq a1 t316 t317 x64_11 = some r) ∧ Aside0 (kq ≤ k) ∧ Aside0 (wc.heap[gb306]? = some (.cells #[.int .i64 t302, .int .i64 t303, .int .i64 t304] 23 (0, 0))) ∧ Aside0 (wc.heap[gb311]? = some (.cells #[.int .i64 t307, .int .i64 t308, .int .i64 t309] 23 (0, 0))) ∧ Aside0 (Below w.heap.size w wc))
      case first =>
        have H := HC12.out
        clear HC12
        by_cases c24 : (!(t302 == t307) || (!(t303 == t308) || (!(t304 == t309)))) = true
        · rw [if_pos c24] at H
          have c24b0 : (!(t302 == t307) || (!(t303 == t308) || (!(t304 == t309)))) = true := c24
          clear c24
          (first | rw [c24b0] | (simp only [i64_w, i32_w]; rw [c24b0]) | skip)
          have H' := Aside0.mk H
          clear H
          have hnb25 := NB306_311.out
          have hnc25 := NB311_306.out
          have hcz26_0 : w23.cell? ⟨gb306, 0, none⟩ = some (.int .i64 t302) := (blk_cell BK306.out 0).trans rfl
          have hcz26_1 : w23.cell? ⟨gb306, 1, none⟩ = some (.int .i64 t303) := (blk_cell BK306.out 1).trans rfl
          have hcz26_2 : w23.cell? ⟨gb306, 2, none⟩ = some (.int .i64 t304) := (blk_cell BK306.out 2).trans rfl
          have hfz26_0 := blk_frozen BK306.out 0
          have hfz26_1 := blk_frozen BK306.out 1
          have hfz26_2 := blk_frozen BK306.out 2
          have hcz27_0 : w23.cell? ⟨gb311, 0, none⟩ = some (.int .i64 t307) := (blk_cell BK311.out 0).trans rfl
          have hcz27_1 : w23.cell? ⟨gb311, 1, none⟩ = some (.int .i64 t308) := (blk_cell BK311.out 1).trans rfl
          have hcz27_2 : w23.cell? ⟨gb311, 2, none⟩ = some (.int .i64 t309) := (blk_cell BK311.out 2).trans rfl
          have hfz27_0 := blk_frozen BK311.out 0
          have hfz27_1 := blk_frozen BK311.out 1
          have hfz27_2 := blk_frozen BK311.out 2
          go_wp2
          go_meet
          case rel => exact ⟨_, (true), (by first | rfl | (simp; done) | (simp [*]; done)), H', ⟨by first | omega | exact Nat.le_refl _⟩, ⟨by (with_reducible repeat (first | refine blk_drewN ?_ _ | refine blk_drew ?_ | refine blk_alloc ?_ _)); exact BK306.out⟩, ⟨by (with_reducible repeat (first | refine blk_drewN ?_ _ | refine blk_drew ?_ | refine blk_alloc ?_ _)); exact BK311.out⟩, ⟨by repeat (first | (with_reducible first | exact HB.out | apply below_alloc | apply pw_below_drewN | apply below_drew1 | refine below_set ?_ GE306.out | refine below_set ?_ GE311.out) | exact HB.out)⟩⟩
        · rw [if_neg c24] at H
          have c24b0 : (!(t302 == t307) || (!(t303 == t308) || (!(t304 == t309)))) = false := by simpa using c24
          clear c24
          (first | rw [c24b0] | (simp only [i64_w, i32_w]; rw [c24b0]) | skip)
          by_cases c28 : t305 = t310
          · rw [if_pos c28] at H
            have c28b0 : (t305 == t310) = true := beq_iff_eq.mpr c28
            have c28b1 : (t305 != t310) = false := bne_eq_false_iff_eq.mpr c28
            clear c28
            by_cases c29 : t312 = t314
            · rw [if_pos c29] at H
              have c29b0 : (t312 == t314) = true := beq_iff_eq.mpr c29
              have c29b1 : (t312 != t314) = false := bne_eq_false_iff_eq.mpr c29
              clear c29
              have H' := Aside0.mk H
              clear H
              have hnb30 := NB306_311.out
              have hnc30 := NB311_306.out
              have hcz31_0 : w23.cell? ⟨gb306, 0, none⟩ = some (.int .i64 t302) := (blk_cell BK306.out 0).trans rfl
              have hcz31_1 : w23.cell? ⟨gb306, 1, none⟩ = some (.int .i64 t303) := (blk_cell BK306.out 1).trans rfl
              have hcz31_2 : w23.cell? ⟨gb306, 2, none⟩ = some (.int .i64 t304) := (blk_cell BK306.out 2).trans rfl
              have hfz31_0 := blk_frozen BK306.out 0
              have hfz31_1 := blk_frozen BK306.out 1
              have hfz31_2 := blk_frozen BK306.out 2
              have hcz32_0 : w23.cell? ⟨gb311, 0, none⟩ = some (.int .i64 t307) := (blk_cell BK311.out 0).trans rfl
              have hcz32_1 : w23.cell? ⟨gb311, 1, none⟩ = some (.int .i64 t308) := (blk_cell BK311.out 1).trans rfl
              have hcz32_2 : w23.cell? ⟨gb311, 2, none⟩ = some (.int .i64 t309) := (blk_cell BK311.out 2).trans rfl
              have hfz32_0 := blk_frozen BK311.out 0
              have hfz32_1 := blk_frozen BK311.out 1
              have hfz32_2 := blk_frozen BK311.out 2
              go_wp2
              go_meet
              case rel => exact ⟨_, ((t313 != t315)), (by first | rfl | (simp; done) | (simp [*]; done)), H', ⟨by first | omega | exact Nat.le_refl _⟩, ⟨by (with_reducible repeat (first | refine blk_drewN ?_ _ | refine blk_drew ?_ | refine blk_alloc ?_ _)); exact BK306.out⟩, ⟨by (with_reducible repeat (first | refine blk_drewN ?_ _ | refine blk_drew ?_ | refine blk_alloc ?_ _)); exact BK311.out⟩, ⟨by repeat (first | (with_reducible first | exact HB.out | apply below_alloc | apply pw_below_drewN | apply below_drew1 | refine below_set ?_ GE306.out | refine below_set ?_ GE311.out) | exact HB.out)⟩⟩
            · rw [if_neg c29] at H
              have c29b0 : (t312 == t314) = false := beq_eq_false_iff_ne.mpr c29
              have c29b1 : (t312 != t314) = true := bne_iff_ne.mpr c29
              have H' := Aside0.mk H
              clear H
              have hnb33 := NB306_311.out
              have hnc33 := NB311_306.out
              have hcz34_0 : w23.cell? ⟨gb306, 0, none⟩ = some (.int .i64 t302) := (blk_cell BK306.out 0).trans rfl
              have hcz34_1 : w23.cell? ⟨gb306, 1, none⟩ = some (.int .i64 t303) := (blk_cell BK306.out 1).trans rfl
              have hcz34_2 : w23.cell? ⟨gb306, 2, none⟩ = some (.int .i64 t304) := (blk_cell BK306.out 2).trans rfl
              have hfz34_0 := blk_frozen BK306.out 0
              have hfz34_1 := blk_frozen BK306.out 1
              have hfz34_2 := blk_frozen BK306.out 2
              have hcz35_0 : w23.cell? ⟨gb311, 0, none⟩ = some (.int .i64 t307) := (blk_cell BK311.out 0).trans rfl
              have hcz35_1 : w23.cell? ⟨gb311, 1, none⟩ = some (.int .i64 t308) := (blk_cell BK311.out 1).trans rfl
              have hcz35_2 : w23.cell? ⟨gb311, 2, none⟩ = some (.int .i64 t309) := (blk_cell BK311.out 2).trans rfl
              have hfz35_0 := blk_frozen BK311.out 0
              have hfz35_1 := blk_frozen BK311.out 1
              have hfz35_2 := blk_frozen BK311.out 2
              go_wp2
              go_meet
              case rel => exact ⟨_, (true), (by first | rfl | (simp; done) | (simp [*]; done)), H', ⟨by first | omega | exact Nat.le_refl _⟩, ⟨by (with_reducible repeat (first | refine blk_drewN ?_ _ | refine blk_drew ?_ | refine blk_alloc ?_ _)); exact BK306.out⟩, ⟨by (with_reducible repeat (first | refine blk_drewN ?_ _ | refine blk_drew ?_ | refine blk_alloc ?_ _)); exact BK311.out⟩, ⟨by repeat (first | (with_reducible first | exact HB.out | apply below_alloc | apply pw_below_drewN | apply below_drew1 | refine below_set ?_ GE306.out | refine below_set ?_ GE311.out) | exact HB.out)⟩⟩
          · rw [if_neg c28] at H
            have c28b0 : (t305 == t310) = false := beq_eq_false_iff_ne.mpr c28
            have c28b1 : (t305 != t310) = true := bne_iff_ne.mpr c28
            have H' := Aside0.mk H
            clear H
            have hnb36 := NB306_311.out
            have hnc36 := NB311_306.out
            have hcz37_0 : w23.cell? ⟨gb306, 0, none⟩ = some (.int .i64 t302) := (blk_cell BK306.out 0).trans rfl
            have hcz37_1 : w23.cell? ⟨gb306, 1, none⟩ = some (.int .i64 t303) := (blk_cell BK306.out 1).trans rfl
            have hcz37_2 : w23.cell? ⟨gb306, 2, none⟩ = some (.int .i64 t304) := (blk_cell BK306.out 2).trans rfl
            have hfz37_0 := blk_frozen BK306.out 0
            have hfz37_1 := blk_frozen BK306.out 1
            have hfz37_2 := blk_frozen BK306.out 2
            have hcz38_0 : w23.cell? ⟨gb311, 0, none⟩ = some (.int .i64 t307) := (blk_cell BK311.out 0).trans rfl
            have hcz38_1 : w23.cell? ⟨gb311, 1, none⟩ = some (.int .i64 t308) := (blk_cell BK311.out 1).trans rfl
            have hcz38_2 : w23.cell? ⟨gb311, 2, none⟩ = some (.int .i64 t309) := (blk_cell BK311.out 2).trans rfl
            have hfz38_0 := blk_frozen BK311.out 0
            have hfz38_1 := blk_frozen BK311.out 1
            have hfz38_2 := blk_frozen BK311.out 2
            go_wp2
            go_meet
            case rel => exact ⟨_, (true), (by first | rfl | (simp; done) | (simp [*]; done)), H', ⟨by first | omega | exact Nat.le_refl _⟩, ⟨by (with_reducible repeat (first | refine blk_drewN ?_ _ | refine blk_drew ?_ | refine blk_alloc ?_ _)); exact BK306.out⟩, ⟨by (with_reducible repeat (first | refine blk_drewN ?_ _ | refine blk_drew ?_ | refine blk_alloc ?_ _)); exact BK311.out⟩, ⟨by repeat (first | (with_reducible first | exact HB.out | apply below_alloc | apply pw_below_drewN | apply below_drew1 | refine below_set ?_ GE306.out | refine below_set ?_ GE311.out) | exact HB.out)⟩⟩
      case rest =>
        clear HC12
        try clear c1
        try clear c2
        try clear p2
        try clear c3
        try clear c4
        try clear c5
        try clear c5b0
        try clear c5b1
        try clear c7
        try clear c11
        try clear c19
        try clear c24
        try clear c24b0
        try clear c25
        try clear c28
        try clear c28b0
        try clear c28b1
        try clear c29
        try clear c29b0
        try clear c29b1
        try clear c30
        try clear c32
        try clear c33
        try clear c34
        try clear c35
        try clear c36
        try clear hcz16_0
        try clear hcz16_1
        try clear hcz16_2
        try clear hcz20_0
        try clear hcz20_1
        try clear hcz20_2
        try clear hcz26_0
        try clear hcz26_1
        try clear hcz26_2
        try clear hcz27_0
        try clear hcz27_1
        try clear hcz27_2
        try clear hcz31_0
        try clear hcz31_1
        try clear hcz31_2
        try clear hcz32_0
        try clear hcz32_1
        try clear hcz32_2
        try clear hcz34_0
        try clear hcz34_1
        try clear hcz34_2
        try clear hcz35_0
        try clear hcz35_1
        try clear hcz35_2
        try clear hcz37_0
        try clear hcz37_1
        try clear hcz37_2
        try clear hcz38_0
        try clear hcz38_1
        try clear hcz38_2
        try clear hfz16_0
        try clear hfz16_1
        try clear hfz16_2
        try clear hfz20_0
        try clear hfz20_1
        try clear hfz20_2
        try clear hfz26_0
        try clear hfz26_1
        try clear hfz26_2
        try clear hfz27_0
        try clear hfz27_1
        try clear hfz27_2
        try clear hfz31_0
        try clear hfz31_1
        try clear hfz31_2
        try clear hfz32_0
        try clear hfz32_1
        try clear hfz32_2
        try clear hfz34_0
        try clear hfz34_1
        try clear hfz34_2
        try clear hfz35_0
        try clear hfz35_1
        try clear hfz35_2
        try clear hfz37_0
        try clear hfz37_1
        try clear hfz37_2
        try clear hfz38_0
        try clear hfz38_1
        try clear hfz38_2
        obtain ⟨kq, x64_11, rfl, HA, HJ11, BK306, BK311, HB⟩ := hcut
        cases kq with
        | zero => exact absurd HA.out (by simp [plenumlaw05_CivilTexts.j0])
        | succ kj11 =>
          have H := HA.out
          clear HA
          simp only [plenumlaw05_CivilTexts.j0] at H
          by_cases c39 : x64_11 = true
          · subst c39
            have H1 : (some false) = some r := by rw [if_pos rfl] at H; exact H
            clear H
            have H := H1
            clear H1
            obtain rfl := Option.some.inj H
            go_wp2
            go_ret
            exact ⟨by first | rfl | (simp [errW_none, errW_some] <;> rfl) | (simp [*, errW_none, errW_some] <;> rfl), by repeat (first | (with_reducible first | exact HB.out | apply below_alloc | apply pw_below_drewN | apply below_drew1 | refine below_set ?_ GE306.out | refine below_set ?_ GE311.out) | exact HB.out)⟩
          · replace c39 := Bool.eq_false_iff.mpr c39
            subst c39
            have H1 : (if a1 < 0 then (plenumlaw05_CivilTexts.j1 kj11 a1 t316 t317 true) else (plenumlaw05_CivilTexts.j1 kj11 a1 t316 t317 (decide (a1 ≥ 1440)))) = some r := by rw [if_neg (show ¬ (false = true) by decide)] at H; exact H
            clear H
            have H := H1
            clear H1
            have HC40 := Aside0.mk H
            clear H
            go_upto_region 12 with (fail)
            go_cut [70] (fun v70 wc => ∃ (kq : Nat) (x70_39 : Bool), v70 = .bool x70_39 ∧ Aside0 (plenumlaw05_CivilTexts.j1 kq a1 t316 t317 x70_39 = some r) ∧ Aside0 (kq ≤ kj11) ∧ Aside0 (wc.heap[gb306]? = some (.cells #[.int .i64 t302, .int .i64 t303, .int .i64 t304] 23 (0, 0))) ∧ Aside0 (wc.heap[gb311]? = some (.cells #[.int .i64 t307, .int .i64 t308, .int .i64 t309] 23 (0, 0))) ∧ Aside0 (Below w.heap.size w wc))
            case first =>
              have H := HC40.out
              clear HC40
              by_cases c41 : a1 < 0
              · rw [if_pos c41] at H
                have c41b0 : decide (a1 < 0) = true := decide_eq_true c41
                clear c41
                (first | rw [c41b0] | (simp only [i64_w, i32_w]; rw [c41b0]) | skip)
                have H' := Aside0.mk H
                clear H
                go_wp2
                go_meet
                case rel => exact ⟨_, (true), (by first | rfl | (simp; done) | (simp [*]; done)), H', ⟨by have := HJ11.out; first | omega | exact Nat.le_refl _⟩, ⟨by (with_reducible repeat (first | refine blk_drewN ?_ _ | refine blk_drew ?_ | refine blk_alloc ?_ _)); exact BK306.out⟩, ⟨by (with_reducible repeat (first | refine blk_drewN ?_ _ | refine blk_drew ?_ | refine blk_alloc ?_ _)); exact BK311.out⟩, ⟨by repeat (first | (with_reducible first | exact HB.out | apply below_alloc | apply pw_below_drewN | apply below_drew1 | refine below_set ?_ GE306.out | refine below_set ?_ GE311.out) | exact HB.out)⟩⟩
              · rw [if_neg c41] at H
                have c41b0 : decide (a1 < 0) = false := decide_eq_false c41
                clear c41
                (first | rw [c41b0] | (simp only [i64_w, i32_w]; rw [c41b0]) | skip)
                have H' := Aside0.mk H
                clear H
                go_wp2
                go_meet
                case rel => exact ⟨_, (decide (a1 ≥ 1440)), (by first | rfl | (simp; done) | (simp [*]; done)), H', ⟨by have := HJ11.out; first | omega | exact Nat.le_refl _⟩, ⟨by (with_reducible repeat (first | refine blk_drewN ?_ _ | refine blk_drew ?_ | refine blk_alloc ?_ _)); exact BK306.out⟩, ⟨by (with_reducible repeat (first | refine blk_drewN ?_ _ | refine blk_drew ?_ | refine blk_alloc ?_ _)); exact BK311.out⟩, ⟨by repeat (first | (with_reducible first | exact HB.out | apply below_alloc | apply pw_below_drewN | apply below_drew1 | refine below_set ?_ GE306.out | refine below_set ?_ GE311.out) | exact HB.out)⟩⟩
            case rest =>
              clear HC40
              try clear c1
              try clear c2
              try clear p2
              try clear c3
              try clear c4
              try clear c5
              try clear c5b0
              try clear c5b1
              try clear c7
              try clear c11
              try clear c19
              try clear c24
              try clear c24b0
              try clear c25
              try clear c28
              try clear c28b0
              try clear c28b1
              try clear c29
              try clear c29b0
              try clear c29b1
              try clear c30
              try clear c32
              try clear c33
              try clear c34
              try clear c35
              try clear c36
              try clear c39
              try clear c41
              try clear c41b0
              try clear hcz16_0
              try clear hcz16_1
              try clear hcz16_2
              try clear hcz20_0
              try clear hcz20_1
              try clear hcz20_2
              try clear hcz26_0
              try clear hcz26_1
              try clear hcz26_2
              try clear hcz27_0
              try clear hcz27_1
              try clear hcz27_2
              try clear hcz31_0
              try clear hcz31_1
              try clear hcz31_2
              try clear hcz32_0
              try clear hcz32_1
              try clear hcz32_2
              try clear hcz34_0
              try clear hcz34_1
              try clear hcz34_2
              try clear hcz35_0
              try clear hcz35_1
              try clear hcz35_2
              try clear hcz37_0
              try clear hcz37_1
              try clear hcz37_2
              try clear hcz38_0
              try clear hcz38_1
              try clear hcz38_2
              try clear hfz16_0
              try clear hfz16_1
              try clear hfz16_2
              try clear hfz20_0
              try clear hfz20_1
              try clear hfz20_2
              try clear hfz26_0
              try clear hfz26_1
              try clear hfz26_2
              try clear hfz27_0
              try clear hfz27_1
              try clear hfz27_2
              try clear hfz31_0
              try clear hfz31_1
              try clear hfz31_2
              try clear hfz32_0
              try clear hfz32_1
              try clear hfz32_2
              try clear hfz34_0
              try clear hfz34_1
              try clear hfz34_2
              try clear hfz35_0
              try clear hfz35_1
              try clear hfz35_2
              try clear hfz37_0
              try clear hfz37_1
              try clear hfz37_2
              try clear hfz38_0
              try clear hfz38_1
              try clear hfz38_2
              try clear p2
              obtain ⟨kq, x70_39, rfl, HA, HJ39, BK306, BK311, HB⟩ := hcut
              cases kq with
              | zero => exact absurd HA.out (by simp [plenumlaw05_CivilTexts.j1])
              | succ kj39 =>
                have H := HA.out
                clear HA
                simp only [plenumlaw05_CivilTexts.j1] at H
                by_cases c42 : x70_39 = true
                · subst c42
                  have H1 : (if t317 = 6 then (some (t316.toList == ([] : List UInt8))) else (some false)) = some r := by rw [if_pos rfl] at H; exact H
                  clear H
                  have H := H1
                  clear H1
                  by_cases c43 : t317 = 6
                  · rw [if_pos c43] at H
                    have c43b0 : (t317 == 6) = true := beq_iff_eq.mpr c43
                    have c43b1 : (t317 != 6) = false := bne_eq_false_iff_eq.mpr c43
                    clear c43
                    obtain rfl := Option.some.inj H
                    go_wp2
                    go_ret
                    exact ⟨by first | rfl | (simp [errW_none, errW_some] <;> rfl) | (simp [*, errW_none, errW_some] <;> rfl), by repeat (first | (with_reducible first | exact HB.out | apply below_alloc | apply pw_below_drewN | apply below_drew1 | refine below_set ?_ GE306.out | refine below_set ?_ GE311.out) | exact HB.out)⟩
                  · rw [if_neg c43] at H
                    have c43b0 : (t317 == 6) = false := beq_eq_false_iff_ne.mpr c43
                    have c43b1 : (t317 != 6) = true := bne_iff_ne.mpr c43
                    obtain rfl := Option.some.inj H
                    go_wp2
                    go_ret
                    exact ⟨by first | rfl | (simp [errW_none, errW_some] <;> rfl) | (simp [*, errW_none, errW_some] <;> rfl), by repeat (first | (with_reducible first | exact HB.out | apply below_alloc | apply pw_below_drewN | apply below_drew1 | refine below_set ?_ GE306.out | refine below_set ?_ GE311.out) | exact HB.out)⟩
                · replace c42 := Bool.eq_false_iff.mpr c42
                  subst c42
                  have H1 : ((civil_ParseClock.f kj39 t316).bind fun bt318 => (if t317 = 0 then ((plenumref05_Clock.f a1).bind fun t320 => (if t316.toList = t320.toList then (if bt318.2 = 0 then (some (bt318.1 == a1)) else (some false)) else (some false))) else (some false))) = some r := by rw [if_neg (show ¬ (false = true) by decide)] at H; exact H
                  clear H
                  have H := H1
                  clear H1
                  replace H := Option.bind_eq_some_iff.mp H
                  obtain ⟨⟨t318, t319⟩, A440, H⟩ := H
                  replace H : (if t317 = 0 then ((plenumref05_Clock.f a1).bind fun t320 => (if t316.toList = t320.toList then (if t319 = 0 then (some (t318 == a1)) else (some false)) else (some false))) else (some false)) = some r := H
                  have A44 := Aside0.mk A440
                  clear A440
                  by_cases c45 : t317 = 0
                  · rw [if_pos c45] at H
                    have c45b0 : (t317 == 0) = true := beq_iff_eq.mpr c45
                    have c45b1 : (t317 != 0) = false := bne_eq_false_iff_eq.mpr c45
                    clear c45
                    replace H := Option.bind_eq_some_iff.mp H
                    obtain ⟨t320, A460, H⟩ := H
                    replace H : (if t316.toList = t320.toList then (if t319 = 0 then (some (t318 == a1)) else (some false)) else (some false)) = some r := H
                    have A46 := Aside0.mk A460
                    clear A460
                    by_cases c47 : t316.toList = t320.toList
                    · rw [if_pos c47] at H
                      have c47b0 : (t316.toList == t320.toList) = true := beq_iff_eq.mpr c47
                      have c47b1 : (t316.toList != t320.toList) = false := bne_eq_false_iff_eq.mpr c47
                      clear c47
                      by_cases c48 : t319 = 0
                      · rw [if_pos c48] at H
                        have c48b0 : (t319 == 0) = true := beq_iff_eq.mpr c48
                        have c48b1 : (t319 != 0) = false := bne_eq_false_iff_eq.mpr c48
                        clear c48
                        obtain rfl := Option.some.inj H
                        go_wp2_with (first | ((with_reducible refine gate_callee (f := 34) rfl ?_); refine goesL_ (some 79) rfl rfl Tryd.func34 (by kernel_rfl) rfl #[.string t316] rfl (by (try simp only [List.map_toArray, List.map_cons, List.map_nil]); first | done | rfl | (simp only [List.length_drop, List.length_take]; rfl)) ?_; (with_reducible refine (civil_ParseClock.calls kj39 t316 t318 t319 _ A44.out).mono ?_); rintro e w49 ⟨rfl, hb⟩; refine ⟨_, rfl, ?_⟩; have n0_ := Aside0.mk (blk_below (g := gb306) (o := .cells #[.int .i64 t302, .int .i64 t303, .int .i64 t304] 23 (0, 0)) (by (with_reducible repeat (first | refine blk_drewN ?_ _ | refine blk_drew ?_ | refine blk_alloc ?_ _)); exact BK306.out) hb); have n1_ := Aside0.mk (blk_below (g := gb311) (o := .cells #[.int .i64 t307, .int .i64 t308, .int .i64 t309] 23 (0, 0)) (by (with_reducible repeat (first | refine blk_drewN ?_ _ | refine blk_drew ?_ | refine blk_alloc ?_ _)); exact BK311.out) hb); have n2_ := Aside0.mk (below_step (by repeat (first | (with_reducible first | exact HB.out | apply below_alloc | apply pw_below_drewN | apply below_drew1 | refine below_set ?_ GE306.out | refine below_set ?_ GE311.out) | exact HB.out)) hb); clear BK306; clear BK311; clear HB; have BK306 := n0_; have BK311 := n1_; have HB := n2_; clear n0_ n1_ n2_; (try clear hb); (try clear hb2); (try clear hk); (try clear hi)) | (go_at_call 37; (with_reducible refine (plenumref05_Clock.calls a1 t320 _ A46.out).mono ?_); rintro e w50 ⟨rfl, hb⟩; have n0_ := Aside0.mk (blk_below (g := gb306) (o := .cells #[.int .i64 t302, .int .i64 t303, .int .i64 t304] 23 (0, 0)) (by (with_reducible repeat (first | refine blk_drewN ?_ _ | refine blk_drew ?_ | refine blk_alloc ?_ _)); exact BK306.out) hb); have n1_ := Aside0.mk (blk_below (g := gb311) (o := .cells #[.int .i64 t307, .int .i64 t308, .int .i64 t309] 23 (0, 0)) (by (with_reducible repeat (first | refine blk_drewN ?_ _ | refine blk_drew ?_ | refine blk_alloc ?_ _)); exact BK311.out) hb); have n2_ := Aside0.mk (below_step (by repeat (first | (with_reducible first | exact HB.out | apply below_alloc | apply pw_below_drewN | apply below_drew1 | refine below_set ?_ GE306.out | refine below_set ?_ GE311.out) | exact HB.out)) hb); clear BK306; clear BK311; clear HB; have BK306 := n0_; have BK311 := n1_; have HB := n2_; clear n0_ n1_ n2_; (try clear hb); (try clear hb2); (try clear hk); (try clear hi)))
                        go_ret
                        exact ⟨by first | rfl | (simp [errW_none, errW_some] <;> rfl) | (simp [*, errW_none, errW_some] <;> rfl), by repeat (first | (with_reducible first | exact HB.out | apply below_alloc | apply pw_below_drewN | apply below_drew1 | refine below_set ?_ GE306.out | refine below_set ?_ GE311.out) | exact HB.out)⟩
                      · rw [if_neg c48] at H
                        have c48b0 : (t319 == 0) = false := beq_eq_false_iff_ne.mpr c48
                        have c48b1 : (t319 != 0) = true := bne_iff_ne.mpr c48
                        obtain rfl := Option.some.inj H
                        go_wp2_with (first | ((with_reducible refine gate_callee (f := 34) rfl ?_); refine goesL_ (some 79) rfl rfl Tryd.func34 (by kernel_rfl) rfl #[.string t316] rfl (by (try simp only [List.map_toArray, List.map_cons, List.map_nil]); first | done | rfl | (simp only [List.length_drop, List.length_take]; rfl)) ?_; (with_reducible refine (civil_ParseClock.calls kj39 t316 t318 t319 _ A44.out).mono ?_); rintro e w51 ⟨rfl, hb⟩; refine ⟨_, rfl, ?_⟩; have n0_ := Aside0.mk (blk_below (g := gb306) (o := .cells #[.int .i64 t302, .int .i64 t303, .int .i64 t304] 23 (0, 0)) (by (with_reducible repeat (first | refine blk_drewN ?_ _ | refine blk_drew ?_ | refine blk_alloc ?_ _)); exact BK306.out) hb); have n1_ := Aside0.mk (blk_below (g := gb311) (o := .cells #[.int .i64 t307, .int .i64 t308, .int .i64 t309] 23 (0, 0)) (by (with_reducible repeat (first | refine blk_drewN ?_ _ | refine blk_drew ?_ | refine blk_alloc ?_ _)); exact BK311.out) hb); have n2_ := Aside0.mk (below_step (by repeat (first | (with_reducible first | exact HB.out | apply below_alloc | apply pw_below_drewN | apply below_drew1 | refine below_set ?_ GE306.out | refine below_set ?_ GE311.out) | exact HB.out)) hb); clear BK306; clear BK311; clear HB; have BK306 := n0_; have BK311 := n1_; have HB := n2_; clear n0_ n1_ n2_; (try clear hb); (try clear hb2); (try clear hk); (try clear hi)) | (go_at_call 37; (with_reducible refine (plenumref05_Clock.calls a1 t320 _ A46.out).mono ?_); rintro e w52 ⟨rfl, hb⟩; have n0_ := Aside0.mk (blk_below (g := gb306) (o := .cells #[.int .i64 t302, .int .i64 t303, .int .i64 t304] 23 (0, 0)) (by (with_reducible repeat (first | refine blk_drewN ?_ _ | refine blk_drew ?_ | refine blk_alloc ?_ _)); exact BK306.out) hb); have n1_ := Aside0.mk (blk_below (g := gb311) (o := .cells #[.int .i64 t307, .int .i64 t308, .int .i64 t309] 23 (0, 0)) (by (with_reducible repeat (first | refine blk_drewN ?_ _ | refine blk_drew ?_ | refine blk_alloc ?_ _)); exact BK311.out) hb); have n2_ := Aside0.mk (below_step (by repeat (first | (with_reducible first | exact HB.out | apply below_alloc | apply pw_below_drewN | apply below_drew1 | refine below_set ?_ GE306.out | refine below_set ?_ GE311.out) | exact HB.out)) hb); clear BK306; clear BK311; clear HB; have BK306 := n0_; have BK311 := n1_; have HB := n2_; clear n0_ n1_ n2_; (try clear hb); (try clear hb2); (try clear hk); (try clear hi)))
                        go_ret
                        exact ⟨by first | rfl | (simp [errW_none, errW_some] <;> rfl) | (simp [*, errW_none, errW_some] <;> rfl), by repeat (first | (with_reducible first | exact HB.out | apply below_alloc | apply pw_below_drewN | apply below_drew1 | refine below_set ?_ GE306.out | refine below_set ?_ GE311.out) | exact HB.out)⟩
                    · rw [if_neg c47] at H
                      have c47b0 : (t316.toList == t320.toList) = false := beq_eq_false_iff_ne.mpr c47
                      have c47b1 : (t316.toList != t320.toList) = true := bne_iff_ne.mpr c47
                      obtain rfl := Option.some.inj H
                      go_wp2_with (first | ((with_reducible refine gate_callee (f := 34) rfl ?_); refine goesL_ (some 79) rfl rfl Tryd.func34 (by kernel_rfl) rfl #[.string t316] rfl (by (try simp only [List.map_toArray, List.map_cons, List.map_nil]); first | done | rfl | (simp only [List.length_drop, List.length_take]; rfl)) ?_; (with_reducible refine (civil_ParseClock.calls kj39 t316 t318 t319 _ A44.out).mono ?_); rintro e w53 ⟨rfl, hb⟩; refine ⟨_, rfl, ?_⟩; have n0_ := Aside0.mk (blk_below (g := gb306) (o := .cells #[.int .i64 t302, .int .i64 t303, .int .i64 t304] 23 (0, 0)) (by (with_reducible repeat (first | refine blk_drewN ?_ _ | refine blk_drew ?_ | refine blk_alloc ?_ _)); exact BK306.out) hb); have n1_ := Aside0.mk (blk_below (g := gb311) (o := .cells #[.int .i64 t307, .int .i64 t308, .int .i64 t309] 23 (0, 0)) (by (with_reducible repeat (first | refine blk_drewN ?_ _ | refine blk_drew ?_ | refine blk_alloc ?_ _)); exact BK311.out) hb); have n2_ := Aside0.mk (below_step (by repeat (first | (with_reducible first | exact HB.out | apply below_alloc | apply pw_below_drewN | apply below_drew1 | refine below_set ?_ GE306.out | refine below_set ?_ GE311.out) | exact HB.out)) hb); clear BK306; clear BK311; clear HB; have BK306 := n0_; have BK311 := n1_; have HB := n2_; clear n0_ n1_ n2_; (try clear hb); (try clear hb2); (try clear hk); (try clear hi)) | (go_at_call 37; (with_reducible refine (plenumref05_Clock.calls a1 t320 _ A46.out).mono ?_); rintro e w54 ⟨rfl, hb⟩; have n0_ := Aside0.mk (blk_below (g := gb306) (o := .cells #[.int .i64 t302, .int .i64 t303, .int .i64 t304] 23 (0, 0)) (by (with_reducible repeat (first | refine blk_drewN ?_ _ | refine blk_drew ?_ | refine blk_alloc ?_ _)); exact BK306.out) hb); have n1_ := Aside0.mk (blk_below (g := gb311) (o := .cells #[.int .i64 t307, .int .i64 t308, .int .i64 t309] 23 (0, 0)) (by (with_reducible repeat (first | refine blk_drewN ?_ _ | refine blk_drew ?_ | refine blk_alloc ?_ _)); exact BK311.out) hb); have n2_ := Aside0.mk (below_step (by repeat (first | (with_reducible first | exact HB.out | apply below_alloc | apply pw_below_drewN | apply below_drew1 | refine below_set ?_ GE306.out | refine below_set ?_ GE311.out) | exact HB.out)) hb); clear BK306; clear BK311; clear HB; have BK306 := n0_; have BK311 := n1_; have HB := n2_; clear n0_ n1_ n2_; (try clear hb); (try clear hb2); (try clear hk); (try clear hi)))
                      go_ret
                      exact ⟨by first | rfl | (simp [errW_none, errW_some] <;> rfl) | (simp [*, errW_none, errW_some] <;> rfl), by repeat (first | (with_reducible first | exact HB.out | apply below_alloc | apply pw_below_drewN | apply below_drew1 | refine below_set ?_ GE306.out | refine below_set ?_ GE311.out) | exact HB.out)⟩
                  · rw [if_neg c45] at H
                    have c45b0 : (t317 == 0) = false := beq_eq_false_iff_ne.mpr c45
                    have c45b1 : (t317 != 0) = true := bne_iff_ne.mpr c45
                    obtain rfl := Option.some.inj H
                    go_wp2_with (first | ((with_reducible refine gate_callee (f := 34) rfl ?_); refine goesL_ (some 79) rfl rfl Tryd.func34 (by kernel_rfl) rfl #[.string t316] rfl (by (try simp only [List.map_toArray, List.map_cons, List.map_nil]); first | done | rfl | (simp only [List.length_drop, List.length_take]; rfl)) ?_; (with_reducible refine (civil_ParseClock.calls kj39 t316 t318 t319 _ A44.out).mono ?_); rintro e w55 ⟨rfl, hb⟩; refine ⟨_, rfl, ?_⟩; have n0_ := Aside0.mk (blk_below (g := gb306) (o := .cells #[.int .i64 t302, .int .i64 t303, .int .i64 t304] 23 (0, 0)) (by (with_reducible repeat (first | refine blk_drewN ?_ _ | refine blk_drew ?_ | refine blk_alloc ?_ _)); exact BK306.out) hb); have n1_ := Aside0.mk (blk_below (g := gb311) (o := .cells #[.int .i64 t307, .int .i64 t308, .int .i64 t309] 23 (0, 0)) (by (with_reducible repeat (first | refine blk_drewN ?_ _ | refine blk_drew ?_ | refine blk_alloc ?_ _)); exact BK311.out) hb); have n2_ := Aside0.mk (below_step (by repeat (first | (with_reducible first | exact HB.out | apply below_alloc | apply pw_below_drewN | apply below_drew1 | refine below_set ?_ GE306.out | refine below_set ?_ GE311.out) | exact HB.out)) hb); clear BK306; clear BK311; clear HB; have BK306 := n0_; have BK311 := n1_; have HB := n2_; clear n0_ n1_ n2_; (try clear hb); (try clear hb2); (try clear hk); (try clear hi)))
                    go_ret
                    exact ⟨by first | rfl | (simp [errW_none, errW_some] <;> rfl) | (simp [*, errW_none, errW_some] <;> rfl), by repeat (first | (with_reducible first | exact HB.out | apply below_alloc | apply pw_below_drewN | apply below_drew1 | refine below_set ?_ GE306.out | refine below_set ?_ GE311.out) | exact HB.out)⟩
  · replace c4 := Bool.eq_false_iff.mpr c4
    subst c4
    have H1 : (some false) = some r := by rw [if_neg (show ¬ (false = true) by decide)] at H; exact H
    clear H
    have H := H1
    clear H1
    obtain rfl := Option.some.inj H
    go_enter Tryd.func7, Tryd.ntmps7
    go_wp2_with (first | ((with_reducible refine gate_callee (f := 11) rfl ?_); refine goesL_ (some 17) rfl rfl Tryd.func11 (by kernel_rfl) rfl #[] rfl (by (try simp only [List.map_toArray, List.map_cons, List.map_nil]); first | done | rfl | (simp only [List.length_drop, List.length_take]; rfl)) ?_; (with_reducible refine (plenumlaw05_awake.calls k  false _ ?sideLen A3.out).mono ?_); (case sideLen => exact LenAt.below HLEN.out (by repeat (first | (with_reducible first | exact HB.out | apply below_alloc | apply pw_below_drewN | apply below_drew1 | refine below_set ?_ GE306.out | refine below_set ?_ GE311.out) | exact HB.out))); rintro e w56 ⟨rfl, hb⟩; refine ⟨_, rfl, ?_⟩; have n0_ := Aside0.mk (below_step (by repeat (first | (with_reducible first | exact HB.out | apply below_alloc | apply pw_below_drewN | apply below_drew1) | exact HB.out)) hb); clear HB; have HB := n0_; clear n0_; (try clear hb); (try clear hb2); (try clear hk); (try clear hi)))
    go_ret
    exact ⟨by first | rfl | (simp [errW_none, errW_some] <;> rfl) | (simp [*, errW_none, errW_some] <;> rfl), by repeat (first | (with_reducible first | exact HB.out | apply below_alloc | apply pw_below_drewN | apply below_drew1) | exact HB.out)⟩

/-- THE ONE PURE STATEMENT of plenumlaw05_CivilTexts: yours. -/
def plenumlaw05_CivilTexts.Pure : Prop := ∀ (a0 : ByteArray) (a1 : Int), a0.size ≤ 140737488351232 → (Lit.int .i64 a1).wf = true → ∃ k, plenumlaw05_CivilTexts.f k a0 a1 = some true
end Go.Proofs.YtipkgjbfannniaaDoor.Q
