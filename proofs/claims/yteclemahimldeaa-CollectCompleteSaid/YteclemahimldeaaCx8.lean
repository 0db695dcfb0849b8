-- Written by pp.py (a program of this session, over the kit's print.py) out of the translation. Not trusted: Lean checks it.
import Derived.Test.YteclemahimldeaaCx0
import Derived.Test.YteclemahimldeaaCx2
import Derived.Test.YteclemahimldeaaCx3
import Derived.Test.YteclemahimldeaaCx6
import Derived.Test.YteclemahimldeaaCx7
namespace Go.Proofs.Yteclemahimldeaa.C
open Go.RowKit Go.Proofs.YteclemahimldeaaW.PrintWords Go.Proofs.YteclemahimldeaaW.PrintLast Go.Proofs.YteclemahimldeaaW.PrintMore
attribute [local go_sem] max2_int min2_int max_two min_two max_three min_three max_four min_four   -- for this text's walks alone
attribute [local go_sem] pp_mod256 pp_mod256_w
set_option linter.unusedVariables false
set_option linter.unusedSimpArgs false

attribute [local go_sem high] eqA42
/-! ### plenumlaw42_CollectComplete: function 5 -/
mutual
def plenumlaw42_CollectComplete.j0 : Nat → Int → List (S46) → Bool → Option (Bool)
 | 0, _, _, _ => none
 | k + 1, x0, x1, x28 => if x28 = true then (some true) else ((plenumlaw42_plain.f k 1 x0).bind fun t181 => ((collect_New.f).bind fun t184 => (plenumlaw42_CollectComplete.l0 k x0 x1 t181 0 0 0 t184)))
def plenumlaw42_CollectComplete.l0 : Nat → Int → List (S46) → List (S42) → Int → Int → Int → List (S42) → Option (Bool)
 | 0, _, _, _, _, _, _, _ => none
 | k + 1, x0, x1, x5, x7, x8, x9, x186000 => if x9 < (x1.length : Int) then (if 0 ≤ x9 then (if (IntKind.u64.wrap (wrap64 (x0 + 1))) = 0 then (none) else (if (IntKind.u64.wrap (wrap64 ((wrap64 (x0 - (wrap64 (Int.tmod (IntKind.u64.wrap ((rd_T46 x1 x9).f0)) (IntKind.u64.wrap (wrap64 (x0 + 1))))))) + 1))) = 0 then (none) else (if 0 ≤ (wrap64 (Int.tmod (IntKind.u64.wrap ((rd_T46 x1 x9).f0)) (IntKind.u64.wrap (wrap64 (x0 + 1))))) then (if (wrap64 (Int.tmod (IntKind.u64.wrap ((rd_T46 x1 x9).f0)) (IntKind.u64.wrap (wrap64 (x0 + 1))))) ≤ (wrap64 ((wrap64 (Int.tmod (IntKind.u64.wrap ((rd_T46 x1 x9).f0)) (IntKind.u64.wrap (wrap64 (x0 + 1))))) + (wrap64 (Int.tmod (IntKind.u64.wrap ((rd_T46 x1 x9).f1)) (IntKind.u64.wrap (wrap64 ((wrap64 (x0 - (wrap64 (Int.tmod (IntKind.u64.wrap ((rd_T46 x1 x9).f0)) (IntKind.u64.wrap (wrap64 (x0 + 1))))))) + 1))))))) then (if (wrap64 ((wrap64 (Int.tmod (IntKind.u64.wrap ((rd_T46 x1 x9).f0)) (IntKind.u64.wrap (wrap64 (x0 + 1))))) + (wrap64 (Int.tmod (IntKind.u64.wrap ((rd_T46 x1 x9).f1)) (IntKind.u64.wrap (wrap64 ((wrap64 (x0 - (wrap64 (Int.tmod (IntKind.u64.wrap ((rd_T46 x1 x9).f0)) (IntKind.u64.wrap (wrap64 (x0 + 1))))))) + 1))))))) ≤ (x5.length : Int) then ((collect_Collector_Take.f k x186000 ((x5.take ((wrap64 ((wrap64 (Int.tmod (IntKind.u64.wrap ((rd_T46 x1 x9).f0)) (IntKind.u64.wrap (wrap64 (x0 + 1))))) + (wrap64 (Int.tmod (IntKind.u64.wrap ((rd_T46 x1 x9).f1)) (IntKind.u64.wrap (wrap64 ((wrap64 (x0 - (wrap64 (Int.tmod (IntKind.u64.wrap ((rd_T46 x1 x9).f0)) (IntKind.u64.wrap (wrap64 (x0 + 1))))))) + 1))))))) : Int).toNat).drop ((wrap64 (Int.tmod (IntKind.u64.wrap ((rd_T46 x1 x9).f0)) (IntKind.u64.wrap (wrap64 (x0 + 1))))) : Int).toNat)).bind fun bt192 => (if bt192.2.1 = 0 then (if (wrap64 ((wrap64 (Int.tmod (IntKind.u64.wrap ((rd_T46 x1 x9).f0)) (IntKind.u64.wrap (wrap64 (x0 + 1))))) + (wrap64 (Int.tmod (IntKind.u64.wrap ((rd_T46 x1 x9).f1)) (IntKind.u64.wrap (wrap64 ((wrap64 (x0 - (wrap64 (Int.tmod (IntKind.u64.wrap ((rd_T46 x1 x9).f0)) (IntKind.u64.wrap (wrap64 (x0 + 1))))))) + 1))))))) > (wrap64 (Int.tmod (IntKind.u64.wrap ((rd_T46 x1 x9).f0)) (IntKind.u64.wrap (wrap64 (x0 + 1))))) then (if (wrap64 ((wrap64 (Int.tmod (IntKind.u64.wrap ((rd_T46 x1 x9).f0)) (IntKind.u64.wrap (wrap64 (x0 + 1))))) + (wrap64 (Int.tmod (IntKind.u64.wrap ((rd_T46 x1 x9).f1)) (IntKind.u64.wrap (wrap64 ((wrap64 (x0 - (wrap64 (Int.tmod (IntKind.u64.wrap ((rd_T46 x1 x9).f0)) (IntKind.u64.wrap (wrap64 (x0 + 1))))))) + 1))))))) > x7 then (plenumlaw42_CollectComplete.l0 k x0 x1 x5 (wrap64 ((wrap64 (Int.tmod (IntKind.u64.wrap ((rd_T46 x1 x9).f0)) (IntKind.u64.wrap (wrap64 (x0 + 1))))) + (wrap64 (Int.tmod (IntKind.u64.wrap ((rd_T46 x1 x9).f1)) (IntKind.u64.wrap (wrap64 ((wrap64 (x0 - (wrap64 (Int.tmod (IntKind.u64.wrap ((rd_T46 x1 x9).f0)) (IntKind.u64.wrap (wrap64 (x0 + 1))))))) + 1))))))) (wrap64 (x8 + (mx 0 (wrap64 ((wrap64 (Int.tmod (IntKind.u64.wrap ((rd_T46 x1 x9).f0)) (IntKind.u64.wrap (wrap64 (x0 + 1))))) - x7))))) (wrap64 (x9 + 1)) bt192.2.2) else (plenumlaw42_CollectComplete.l0 k x0 x1 x5 x7 x8 (wrap64 (x9 + 1)) bt192.2.2)) else (plenumlaw42_CollectComplete.l0 k x0 x1 x5 x7 x8 (wrap64 (x9 + 1)) bt192.2.2)) else (some false))) else (none)) else (none)) else (none)))) else (none)) else ((collect_Collector_From.f x186000).bind fun bt195 => (if bt195.1 = (wrap64 (x7 + 1)) then ((collect_Collector_Lost.f k bt195.2).bind fun bt197 => (plenumlaw42_CollectComplete.j2 k x0 x5 x7 x8 (bt197.1 != x8) bt197.2)) else (plenumlaw42_CollectComplete.j2 k x0 x5 x7 x8 true bt195.2)))
def plenumlaw42_CollectComplete.j2 : Nat → Int → List (S42) → Int → Int → Bool → List (S42) → Option (Bool)
 | 0, _, _, _, _, _, _ => none
 | k + 1, x0, x5, x7, x8, x100, x186000 => if x100 = true then (some false) else ((collect_Collector_Records.f x186000).bind fun bt199 => (if x8 = 0 then (if 0 ≤ x7 then (if x7 ≤ (x5.length : Int) then ((plenumref42_Same.f k bt199.1 (x5.take (x7 : Int).toNat)).bind fun t207 => (plenumlaw42_CollectComplete.j3 k x0 x5 bt199.1 (!t207))) else (none)) else (none)) else (plenumlaw42_CollectComplete.j3 k x0 x5 bt199.1 false)))
def plenumlaw42_CollectComplete.j3 : Nat → Int → List (S42) → List (S42) → Bool → Option (Bool)
 | 0, _, _, _, _ => none
 | k + 1, x0, x5, x14, x112 => if x112 = true then (some false) else (plenumlaw42_CollectComplete.l1 k x0 x5 x14 0)
def plenumlaw42_CollectComplete.l1 : Nat → Int → List (S42) → List (S42) → Int → Option (Bool)
 | 0, _, _, _, _ => none
 | k + 1, x0, x5, x14, x15 => if x15 < (x14.length : Int) then (if 0 ≤ x15 then (if ((rd_T42 x14 x15).f4) = 0 then (if ((rd_T42 x14 x15).f0) > x0 then (some false) else (if 0 ≤ (wrap64 (((rd_T42 x14 x15).f0) - 1)) then (if (wrap64 (((rd_T42 x14 x15).f0) - 1)) < (x5.length : Int) then (if (!(((rd_T42 x14 x15).f0) == ((rd_T42 x5 (wrap64 (((rd_T42 x14 x15).f0) - 1))).f0)) || (!(((rd_T42 x14 x15).f1) == ((rd_T42 x5 (wrap64 (((rd_T42 x14 x15).f0) - 1))).f1)) || ((!(((rd_T42 x14 x15).f2.f0) == ((rd_T42 x5 (wrap64 (((rd_T42 x14 x15).f0) - 1))).f2.f0)) || (!(((rd_T42 x14 x15).f2.f1) == ((rd_T42 x5 (wrap64 (((rd_T42 x14 x15).f0) - 1))).f2.f1)))) || (!(((rd_T42 x14 x15).f3) == ((rd_T42 x5 (wrap64 (((rd_T42 x14 x15).f0) - 1))).f3)) || (!(((rd_T42 x14 x15).f4) == ((rd_T42 x5 (wrap64 (((rd_T42 x14 x15).f0) - 1))).f4))))))) = true then (some false) else (plenumlaw42_CollectComplete.l1 k x0 x5 x14 (wrap64 (x15 + 1)))) else (none)) else (none))) else (plenumlaw42_CollectComplete.l1 k x0 x5 x14 (wrap64 (x15 + 1)))) else (none)) else (some true)
end
def plenumlaw42_CollectComplete.f (k : Nat) (a0 : Int) (l1 : List (S46)) : Option (Bool) := (plenumlaw42_awake.f k).bind fun t180 => (if t180 = true then (if a0 < 0 then (plenumlaw42_CollectComplete.j0 k a0 l1 true) else (if a0 > 40 then (plenumlaw42_CollectComplete.j0 k a0 l1 true) else (plenumlaw42_CollectComplete.j0 k a0 l1 (decide ((l1.length : Int) > 12))))) else (some false))
theorem plenumlaw42_CollectComplete.mono_l : ∀ k, (∀ y0 y1 y2, LeO (plenumlaw42_CollectComplete.j0 k y0 y1 y2) (plenumlaw42_CollectComplete.j0 (k + 1) y0 y1 y2)) ∧ (∀ y0 y1 y2 y3 y4 y5 y6, LeO (plenumlaw42_CollectComplete.l0 k y0 y1 y2 y3 y4 y5 y6) (plenumlaw42_CollectComplete.l0 (k + 1) y0 y1 y2 y3 y4 y5 y6)) ∧ (∀ y0 y1 y2 y3 y4 y5, LeO (plenumlaw42_CollectComplete.j2 k y0 y1 y2 y3 y4 y5) (plenumlaw42_CollectComplete.j2 (k + 1) y0 y1 y2 y3 y4 y5)) ∧ (∀ y0 y1 y2 y3, LeO (plenumlaw42_CollectComplete.j3 k y0 y1 y2 y3) (plenumlaw42_CollectComplete.j3 (k + 1) y0 y1 y2 y3)) ∧ (∀ y0 y1 y2 y3, LeO (plenumlaw42_CollectComplete.l1 k y0 y1 y2 y3) (plenumlaw42_CollectComplete.l1 (k + 1) y0 y1 y2 y3))
 | 0 => ⟨fun _ _ _ r h => by simp [plenumlaw42_CollectComplete.j0] at h, fun _ _ _ _ _ _ _ r h => by simp [plenumlaw42_CollectComplete.l0] at h, fun _ _ _ _ _ _ r h => by simp [plenumlaw42_CollectComplete.j2] at h, fun _ _ _ _ r h => by simp [plenumlaw42_CollectComplete.j3] at h, fun _ _ _ _ r h => by simp [plenumlaw42_CollectComplete.l1] at h⟩
 | k + 1 => by
  obtain ⟨ih0, ih1, ih2, ih3, ih4⟩ := plenumlaw42_CollectComplete.mono_l k
  refine ⟨?_, ?_, ?_, ?_, ?_⟩
  ·intro y0 y1 y2
   unfold plenumlaw42_CollectComplete.j0
   repeat' first
   | (with_reducible exact ih0 _ _ _)
   | (with_reducible exact ih1 _ _ _ _ _ _ _)
   | (with_reducible exact ih2 _ _ _ _ _ _)
   | (with_reducible exact ih3 _ _ _ _)
   | (with_reducible exact ih4 _ _ _ _)
   | (with_reducible exact collect_Collector_Lost.mono _ _)
   | (with_reducible exact collect_Collector_Take.mono _ _ _)
   | (with_reducible exact plenumlaw42_awake.mono _)
   | (with_reducible exact plenumlaw42_plain.mono _ _ _)
   | (with_reducible exact plenumref42_Same.mono _ _ _)
   | (with_reducible exact LeO.refl _)
   | (with_reducible exact LeO.none _)
   | (with_reducible refine LeO.ite ?_ ?_)
   | (with_reducible refine LeO.bind ?_ (fun _ => ?_))
   | exact ih0 _ _ _
   | exact ih1 _ _ _ _ _ _ _
   | exact ih2 _ _ _ _ _ _
   | exact ih3 _ _ _ _
   | exact ih4 _ _ _ _
   | exact collect_Collector_Lost.mono _ _
   | exact collect_Collector_Take.mono _ _ _
   | exact plenumlaw42_awake.mono _
   | exact plenumlaw42_plain.mono _ _ _
   | exact plenumref42_Same.mono _ _ _
   | exact LeO.none _
   | refine LeO.ite ?_ ?_
   | refine LeO.bind ?_ (fun _ => ?_)
  ·intro y0 y1 y2 y3 y4 y5 y6
   unfold plenumlaw42_CollectComplete.l0
   repeat' first
   | (with_reducible exact ih0 _ _ _)
   | (with_reducible exact ih1 _ _ _ _ _ _ _)
   | (with_reducible exact ih2 _ _ _ _ _ _)
   | (with_reducible exact ih3 _ _ _ _)
   | (with_reducible exact ih4 _ _ _ _)
   | (with_reducible exact collect_Collector_Lost.mono _ _)
   | (with_reducible exact collect_Collector_Take.mono _ _ _)
   | (with_reducible exact plenumlaw42_awake.mono _)
   | (with_reducible exact plenumlaw42_plain.mono _ _ _)
   | (with_reducible exact plenumref42_Same.mono _ _ _)
   | (with_reducible exact LeO.refl _)
   | (with_reducible exact LeO.none _)
   | (with_reducible refine LeO.ite ?_ ?_)
   | (with_reducible refine LeO.bind ?_ (fun _ => ?_))
   | exact ih0 _ _ _
   | exact ih1 _ _ _ _ _ _ _
   | exact ih2 _ _ _ _ _ _
   | exact ih3 _ _ _ _
   | exact ih4 _ _ _ _
   | exact collect_Collector_Lost.mono _ _
   | exact collect_Collector_Take.mono _ _ _
   | exact plenumlaw42_awake.mono _
   | exact plenumlaw42_plain.mono _ _ _
   | exact plenumref42_Same.mono _ _ _
   | exact LeO.none _
   | refine LeO.ite ?_ ?_
   | refine LeO.bind ?_ (fun _ => ?_)
  ·intro y0 y1 y2 y3 y4 y5
   unfold plenumlaw42_CollectComplete.j2
   repeat' first
   | (with_reducible exact ih0 _ _ _)
   | (with_reducible exact ih1 _ _ _ _ _ _ _)
   | (with_reducible exact ih2 _ _ _ _ _ _)
   | (with_reducible exact ih3 _ _ _ _)
   | (with_reducible exact ih4 _ _ _ _)
   | (with_reducible exact collect_Collector_Lost.mono _ _)
   | (with_reducible exact collect_Collector_Take.mono _ _ _)
   | (with_reducible exact plenumlaw42_awake.mono _)
   | (with_reducible exact plenumlaw42_plain.mono _ _ _)
   | (with_reducible exact plenumref42_Same.mono _ _ _)
   | (with_reducible exact LeO.refl _)
   | (with_reducible exact LeO.none _)
   | (with_reducible refine LeO.ite ?_ ?_)
   | (with_reducible refine LeO.bind ?_ (fun _ => ?_))
   | exact ih0 _ _ _
   | exact ih1 _ _ _ _ _ _ _
   | exact ih2 _ _ _ _ _ _
   | exact ih3 _ _ _ _
   | exact ih4 _ _ _ _
   | exact collect_Collector_Lost.mono _ _
   | exact collect_Collector_Take.mono _ _ _
   | exact plenumlaw42_awake.mono _
   | exact plenumlaw42_plain.mono _ _ _
   | exact plenumref42_Same.mono _ _ _
   | exact LeO.none _
   | refine LeO.ite ?_ ?_
   | refine LeO.bind ?_ (fun _ => ?_)
  ·intro y0 y1 y2 y3
   unfold plenumlaw42_CollectComplete.j3
   repeat' first
   | (with_reducible exact ih0 _ _ _)
   | (with_reducible exact ih1 _ _ _ _ _ _ _)
   | (with_reducible exact ih2 _ _ _ _ _ _)
   | (with_reducible exact ih3 _ _ _ _)
   | (with_reducible exact ih4 _ _ _ _)
   | (with_reducible exact collect_Collector_Lost.mono _ _)
   | (with_reducible exact collect_Collector_Take.mono _ _ _)
   | (with_reducible exact plenumlaw42_awake.mono _)
   | (with_reducible exact plenumlaw42_plain.mono _ _ _)
   | (with_reducible exact plenumref42_Same.mono _ _ _)
   | (with_reducible exact LeO.refl _)
   | (with_reducible exact LeO.none _)
   | (with_reducible refine LeO.ite ?_ ?_)
   | (with_reducible refine LeO.bind ?_ (fun _ => ?_))
   | exact ih0 _ _ _
   | exact ih1 _ _ _ _ _ _ _
   | exact ih2 _ _ _ _ _ _
   | exact ih3 _ _ _ _
   | exact ih4 _ _ _ _
   | exact collect_Collector_Lost.mono _ _
   | exact collect_Collector_Take.mono _ _ _
   | exact plenumlaw42_awake.mono _
   | exact plenumlaw42_plain.mono _ _ _
   | exact plenumref42_Same.mono _ _ _
   | exact LeO.none _
   | refine LeO.ite ?_ ?_
   | refine LeO.bind ?_ (fun _ => ?_)
  ·intro y0 y1 y2 y3
   unfold plenumlaw42_CollectComplete.l1
   repeat' first
   | (with_reducible exact ih0 _ _ _)
   | (with_reducible exact ih1 _ _ _ _ _ _ _)
   | (with_reducible exact ih2 _ _ _ _ _ _)
   | (with_reducible exact ih3 _ _ _ _)
   | (with_reducible exact ih4 _ _ _ _)
   | (with_reducible exact collect_Collector_Lost.mono _ _)
   | (with_reducible exact collect_Collector_Take.mono _ _ _)
   | (with_reducible exact plenumlaw42_awake.mono _)
   | (with_reducible exact plenumlaw42_plain.mono _ _ _)
   | (with_reducible exact plenumref42_Same.mono _ _ _)
   | (with_reducible exact LeO.refl _)
   | (with_reducible exact LeO.none _)
   | (with_reducible refine LeO.ite ?_ ?_)
   | (with_reducible refine LeO.bind ?_ (fun _ => ?_))
   | exact ih0 _ _ _
   | exact ih1 _ _ _ _ _ _ _
   | exact ih2 _ _ _ _ _ _
   | exact ih3 _ _ _ _
   | exact ih4 _ _ _ _
   | exact collect_Collector_Lost.mono _ _
   | exact collect_Collector_Take.mono _ _ _
   | exact plenumlaw42_awake.mono _
   | exact plenumlaw42_plain.mono _ _ _
   | exact plenumref42_Same.mono _ _ _
   | exact LeO.none _
   | refine LeO.ite ?_ ?_
   | refine LeO.bind ?_ (fun _ => ?_)
theorem plenumlaw42_CollectComplete.mono : ∀ a0 a1 k, LeO (plenumlaw42_CollectComplete.f k a0 a1) (plenumlaw42_CollectComplete.f (k + 1) a0 a1) := by
 intro a0 a1 k
 obtain ⟨ih0, ih1, ih2, ih3, ih4⟩ := plenumlaw42_CollectComplete.mono_l k
 unfold plenumlaw42_CollectComplete.f
 repeat' first
   | (with_reducible exact ih0 _ _ _)
   | (with_reducible exact ih1 _ _ _ _ _ _ _)
   | (with_reducible exact ih2 _ _ _ _ _ _)
   | (with_reducible exact ih3 _ _ _ _)
   | (with_reducible exact ih4 _ _ _ _)
   | (with_reducible exact collect_Collector_Lost.mono _ _)
   | (with_reducible exact collect_Collector_Take.mono _ _ _)
   | (with_reducible exact plenumlaw42_awake.mono _)
   | (with_reducible exact plenumlaw42_plain.mono _ _ _)
   | (with_reducible exact plenumref42_Same.mono _ _ _)
   | (with_reducible exact LeO.refl _)
   | (with_reducible exact LeO.none _)
   | (with_reducible refine LeO.ite ?_ ?_)
   | (with_reducible refine LeO.bind ?_ (fun _ => ?_))
   | exact ih0 _ _ _
   | exact ih1 _ _ _ _ _ _ _
   | exact ih2 _ _ _ _ _ _
   | exact ih3 _ _ _ _
   | exact ih4 _ _ _ _
   | exact collect_Collector_Lost.mono _ _
   | exact collect_Collector_Take.mono _ _ _
   | exact plenumlaw42_awake.mono _
   | exact plenumlaw42_plain.mono _ _ _
   | exact plenumref42_Same.mono _ _ _
   | exact LeO.none _
   | refine LeO.ite ?_ ?_
   | refine LeO.bind ?_ (fun _ => ?_)
set_option maxHeartbeats 8000000 in
set_option maxRecDepth 100000 in
theorem plenumlaw42_CollectComplete.calls (k : Nat) (a0 : Int) (A1 : Option Addr) (c1 : Nat) (l1 : List (S46)) (r : Bool) (w : World) (hr1 : Kd.C k46 w A1 l1.length l1) (hc1 : l1.length ≤ c1) (h : plenumlaw42_CollectComplete.f k a0 l1 = some r) :
  Calls Try.prog 5 #[.int .i64 a0, .slice A1 l1.length c1] w fun e w' => e = .returned (.bool r) ∧ Below w.heap.size w w' := by
 have hu42 := Try.underlying42
 have HR1 := Aside0.mk hr1
 have HC1 := Aside0.mk hc1
 clear hr1 hc1
 have HB := Aside0.mk (Below.refl w.heap.size w)
 have H : ((plenumlaw42_awake.f k).bind fun t180 => (if t180 = true then (if a0 < 0 then (plenumlaw42_CollectComplete.j0 k a0 l1 true) else (if a0 > 40 then (plenumlaw42_CollectComplete.j0 k a0 l1 true) else (plenumlaw42_CollectComplete.j0 k a0 l1 (decide ((l1.length : Int) > 12))))) else (some false))) = some r := h
 clear h
 replace H := Option.bind_eq_some_iff.mp H
 obtain ⟨t180, A30, H⟩ := H
 replace H : (if t180 = true then (if a0 < 0 then (plenumlaw42_CollectComplete.j0 k a0 l1 true) else (if a0 > 40 then (plenumlaw42_CollectComplete.j0 k a0 l1 true) else (plenumlaw42_CollectComplete.j0 k a0 l1 (decide ((l1.length : Int) > 12))))) else (some false)) = some r := H
 have A3 := Aside0.mk A30
 clear A30
 by_cases c4 : t180 = true
 ·subst c4
  have H1 : (if a0 < 0 then (plenumlaw42_CollectComplete.j0 k a0 l1 true) else (if a0 > 40 then (plenumlaw42_CollectComplete.j0 k a0 l1 true) else (plenumlaw42_CollectComplete.j0 k a0 l1 (decide ((l1.length : Int) > 12))))) = some r := by rw [if_pos rfl] at H; exact H
  clear H
  have H := H1
  clear H1
  have HC5 := Aside0.mk H
  clear H
  go_enter Try.func5, Try.ntmps5
  go_upto_region 3 with (first | (go_at_call 10; (with_reducible refine (plenumlaw42_awake.calls k  true _ A3.out).mono ?_); rintro e w6 ⟨rfl, hb⟩; have n0_ := Aside0.mk (below_step (by repeat (first | (with_reducible first | exact HB.out | apply below_alloc | apply pw_below_drewN | apply below_drew1) | exact HB.out)) hb); clear HB; have HB := n0_; clear n0_; (try clear hb); (try clear hb2); (try clear hk); (try clear hi)))
  repeat (go_quiet (first | (go_at_call 10; (with_reducible refine (plenumlaw42_awake.calls k  true _ A3.out).mono ?_); rintro e w6 ⟨rfl, hb⟩; have n0_ := Aside0.mk (below_step (by repeat (first | (with_reducible first | exact HB.out | apply below_alloc | apply pw_below_drewN | apply below_drew1) | exact HB.out)) hb); clear HB; have HB := n0_; clear n0_; (try clear hb); (try clear hb2); (try clear hk); (try clear hi))); go_upto_region 3 with (first | (go_at_call 10; (with_reducible refine (plenumlaw42_awake.calls k  true _ A3.out).mono ?_); rintro e w6 ⟨rfl, hb⟩; have n0_ := Aside0.mk (below_step (by repeat (first | (with_reducible first | exact HB.out | apply below_alloc | apply pw_below_drewN | apply below_drew1) | exact HB.out)) hb); clear HB; have HB := n0_; clear n0_; (try clear hb); (try clear hb2); (try clear hk); (try clear hi))))
  (try simp only [Act.put, List.setIfInBounds_toArray, List.set_cons_zero, List.set_cons_succ])
  go_cut [28] (fun v28 wc => ∃ (kq : Nat) (x28_4 : Bool), v28 = .bool x28_4 ∧ Aside0 (plenumlaw42_CollectComplete.j0 kq a0 l1 x28_4 = some r) ∧ Aside0 (kq ≤ k) ∧ Aside0 (Below w.heap.size w wc))
  case first =>
   have H := HC5.out
   clear HC5
   by_cases c7 : a0 < 0
   ·rw [if_pos c7] at H
    have c7b0 : decide (a0 < 0) = true := decide_eq_true c7
    clear c7
    (first | rw [c7b0] | (simp only [i64_w, i32_w]; rw [c7b0]) | skip)
    have H' := Aside0.mk H
    clear H
    go_wp2
    repeat (go_quiet (fail); try go_wp2)
    go_meet
    case rel => exact ⟨_, (true), (by first | rfl | (simp; done) | (simp [*]; done)), H', ⟨by first | omega | exact Nat.le_refl _⟩, ⟨by repeat (first | (with_reducible first | exact HB.out | apply below_alloc | apply pw_below_drewN | apply below_drew1) | exact HB.out)⟩⟩
   ·rw [if_neg c7] at H
    have c7b0 : decide (a0 < 0) = false := decide_eq_false c7
    clear c7
    (first | rw [c7b0] | (simp only [i64_w, i32_w]; rw [c7b0]) | skip)
    by_cases c8 : a0 > 40
    ·rw [if_pos c8] at H
     have c8b0 : decide (40 < a0) = true := decide_eq_true c8
     clear c8
     have H' := Aside0.mk H
     clear H
     go_wp2
     repeat (go_quiet (fail); try go_wp2)
     go_meet
     case rel => exact ⟨_, (true), (by first | rfl | (simp; done) | (simp [*]; done)), H', ⟨by first | omega | exact Nat.le_refl _⟩, ⟨by repeat (first | (with_reducible first | exact HB.out | apply below_alloc | apply pw_below_drewN | apply below_drew1) | exact HB.out)⟩⟩
    ·rw [if_neg c8] at H
     have c8b0 : decide (40 < a0) = false := decide_eq_false c8
     clear c8
     have H' := Aside0.mk H
     clear H
     go_wp2
     repeat (go_quiet (fail); try go_wp2)
     go_meet
     case rel => exact ⟨_, (decide ((l1.length : Int) > 12)), (by first | rfl | (simp; done) | (simp [*]; done)), H', ⟨by first | omega | exact Nat.le_refl _⟩, ⟨by repeat (first | (with_reducible first | exact HB.out | apply below_alloc | apply pw_below_drewN | apply below_drew1) | exact HB.out)⟩⟩
  case rest =>
   clear HC5
   try clear c1
   try clear p2
   try clear c4
   try clear c5
   try clear c7
   try clear c7b0
   try clear c8
   try clear c8b0
   obtain ⟨kq, x28_4, rfl, HA, HJ4, HB⟩ := hcut
   cases kq with
   | zero => exact absurd HA.out (by simp [plenumlaw42_CollectComplete.j0])
   | succ kj4 =>
    have H := HA.out
    clear HA
    simp only [plenumlaw42_CollectComplete.j0] at H
    by_cases c9 : x28_4 = true
    ·subst c9
     have H1 : (some true) = some r := by rw [if_pos rfl] at H; exact H
     clear H
     have H := H1
     clear H1
     obtain rfl := Option.some.inj H
     go_wp2
     repeat (go_quiet (fail); try go_wp2)
     go_ret
     exact ⟨by first | rfl | (simp [errW_none, errW_some] <;> rfl) | (simp [*, errW_none, errW_some] <;> rfl), by repeat (first | (with_reducible first | exact HB.out | apply below_alloc | apply pw_below_drewN | apply below_drew1) | exact HB.out)⟩
    ·replace c9 := Bool.eq_false_iff.mpr c9
     subst c9
     have H1 : ((plenumlaw42_plain.f kj4 1 a0).bind fun t181 => ((collect_New.f).bind fun t184 => (plenumlaw42_CollectComplete.l0 kj4 a0 l1 t181 0 0 0 t184))) = some r := by rw [if_neg (show ¬ (false = true) by decide)] at H; exact H
     clear H
     have H := H1
     clear H1
     replace H := Option.bind_eq_some_iff.mp H
     obtain ⟨t181, A100, H⟩ := H
     replace H : ((collect_New.f).bind fun t184 => (plenumlaw42_CollectComplete.l0 kj4 a0 l1 t181 0 0 0 t184)) = some r := H
     have A10 := Aside0.mk A100
     clear A100
     replace H := Option.bind_eq_some_iff.mp H
     obtain ⟨t184, A110, H⟩ := H
     replace H : (plenumlaw42_CollectComplete.l0 kj4 a0 l1 t181 0 0 0 t184) = some r := H
     have A11 := Aside0.mk A110
     clear A110
     have H' := Aside0.mk H
     clear H
     go_wp2_with (first | (go_at_call 23; (with_reducible refine (plenumlaw42_plain.calls kj4 1 a0 t181 _ A10.out).mono ?_); rintro e w12 ⟨v182, rfl, ho0, hb⟩; have n0_ := Aside0.mk (Kd.R_lower ho0 (below_size (by repeat (first | (with_reducible first | exact HB.out | apply below_alloc | apply pw_below_drewN | apply below_drew1) | exact HB.out)))); have n1_ := Aside0.mk (below_step (by repeat (first | (with_reducible first | exact HB.out | apply below_alloc | apply pw_below_drewN | apply below_drew1) | exact HB.out)) hb); clear HB; have HO183 := n0_; have HB := n1_; clear n0_ n1_; (try clear hb); (try clear hb2); (try clear hk); (try clear hi); (try clear ho0)) | (go_at_call 12; (with_reducible refine (collect_New.calls  t184 w _ ?side1 A11.out).mono ?_); (case side1 => repeat (first | (with_reducible first | exact HB.out | apply below_alloc | apply pw_below_drewN | apply below_drew1) | exact HB.out)); rintro e w13 ⟨g185, rfl, hi, hb, hb2⟩; have n0_ := Aside0.mk (Kd.R_below (by (with_reducible repeat (first | apply Kd.R_alloc | apply Kd.R_drewN | apply Kd.R_drew)); exact HO183.out) hb2); have n1_ := Aside0.mk (hb); have n2_ := Aside0.mk (hi); clear HO183; clear HB; have HO183 := n0_; have HB := n1_; have HI185 := n2_; clear n0_ n1_ n2_; (try clear hb); (try clear hb2); (try clear hk); (try clear hi)))
     repeat (go_quiet (first | (go_at_call 23; (with_reducible refine (plenumlaw42_plain.calls kj4 1 a0 t181 _ A10.out).mono ?_); rintro e w12 ⟨v182, rfl, ho0, hb⟩; have n0_ := Aside0.mk (Kd.R_lower ho0 (below_size (by repeat (first | (with_reducible first | exact HB.out | apply below_alloc | apply pw_below_drewN | apply below_drew1) | exact HB.out)))); have n1_ := Aside0.mk (below_step (by repeat (first | (with_reducible first | exact HB.out | apply below_alloc | apply pw_below_drewN | apply below_drew1) | exact HB.out)) hb); clear HB; have HO183 := n0_; have HB := n1_; clear n0_ n1_; (try clear hb); (try clear hb2); (try clear hk); (try clear hi); (try clear ho0)) | (go_at_call 12; (with_reducible refine (collect_New.calls  t184 w _ ?side1 A11.out).mono ?_); (case side1 => repeat (first | (with_reducible first | exact HB.out | apply below_alloc | apply pw_below_drewN | apply below_drew1) | exact HB.out)); rintro e w13 ⟨g185, rfl, hi, hb, hb2⟩; have n0_ := Aside0.mk (Kd.R_below (by (with_reducible repeat (first | apply Kd.R_alloc | apply Kd.R_drewN | apply Kd.R_drew)); exact HO183.out) hb2); have n1_ := Aside0.mk (hb); have n2_ := Aside0.mk (hi); clear HO183; clear HB; have HO183 := n0_; have HB := n1_; have HI185 := n2_; clear n0_ n1_ n2_; (try clear hb); (try clear hb2); (try clear hk); (try clear hi))); try go_wp2_with (first | (go_at_call 23; (with_reducible refine (plenumlaw42_plain.calls kj4 1 a0 t181 _ A10.out).mono ?_); rintro e w12 ⟨v182, rfl, ho0, hb⟩; have n0_ := Aside0.mk (Kd.R_lower ho0 (below_size (by repeat (first | (with_reducible first | exact HB.out | apply below_alloc | apply pw_below_drewN | apply below_drew1) | exact HB.out)))); have n1_ := Aside0.mk (below_step (by repeat (first | (with_reducible first | exact HB.out | apply below_alloc | apply pw_below_drewN | apply below_drew1) | exact HB.out)) hb); clear HB; have HO183 := n0_; have HB := n1_; clear n0_ n1_; (try clear hb); (try clear hb2); (try clear hk); (try clear hi); (try clear ho0)) | (go_at_call 12; (with_reducible refine (collect_New.calls  t184 w _ ?side1 A11.out).mono ?_); (case side1 => repeat (first | (with_reducible first | exact HB.out | apply below_alloc | apply pw_below_drewN | apply below_drew1) | exact HB.out)); rintro e w13 ⟨g185, rfl, hi, hb, hb2⟩; have n0_ := Aside0.mk (Kd.R_below (by (with_reducible repeat (first | apply Kd.R_alloc | apply Kd.R_drewN | apply Kd.R_drew)); exact HO183.out) hb2); have n1_ := Aside0.mk (hb); have n2_ := Aside0.mk (hi); clear HO183; clear HB; have HO183 := n0_; have HB := n1_; have HI185 := n2_; clear n0_ n1_ n2_; (try clear hb); (try clear hb2); (try clear hk); (try clear hi))))
     go_loopg [7, 8, 9] kj4 (fun kq v7 v8 v9 w' => ∃ (x7_2 : Int) (x8_2 : Int) (x9_2 : Int) (x186000_2 : List (S42)), v7 = .int .i64 x7_2 ∧ v8 = .int .i64 x8_2 ∧ v9 = .int .i64 x9_2 ∧ Aside0 (plenumlaw42_CollectComplete.l0 kq a0 l1 t181 x7_2 x8_2 x9_2 x186000_2 = some r) ∧ Aside0 (kq ≤ kj4) ∧ Aside0 (Kd.R k42 42 w' w.heap.size (fun _ => True) v182 t181) ∧ Aside0 (IsS58 w w' g185 x186000_2) ∧ Aside0 (Below w.heap.size w w'))
     case atStart => exact ⟨(0), (0), (0), (t184), (by first | rfl | (simp; done) | (simp [*]; done)), (by first | rfl | (simp; done) | (simp [*]; done)), (by first | rfl | (simp; done) | (simp [*]; done)), H', ⟨Nat.le_refl _⟩, ⟨by (with_reducible repeat (first | apply Kd.R_alloc | apply Kd.R_drewN | apply Kd.R_drew)); exact HO183.out⟩, ⟨by repeat (first | (with_reducible first | exact HI185.out | apply IsS58.alloc | apply IsS58.drewN | apply IsS58.drew | apply IsS58.set_0) | exact HI185.out)⟩, ⟨by repeat (first | (with_reducible first | exact HB.out | apply below_alloc | apply pw_below_drewN | apply below_drew1 | refine below_set ?_ (IsS58.ge HI185.out)) | exact HB.out)⟩⟩
     case round =>
      clear H'
      try clear c1
      try clear p2
      try clear c4
      try clear c5
      try clear c7
      try clear c7b0
      try clear c8
      try clear c8b0
      try clear c9
      try clear p2
      obtain ⟨x7_2, x8_2, x9_2, x186000_2, rfl, rfl, rfl, HA, HK2, HO_5, HI185, HB⟩ := hrel
      cases gk with
      | zero => exact absurd HA.out (by simp [plenumlaw42_CollectComplete.l0])
      | succ k2 =>
       have H := HA.out
       clear HA
       simp only [plenumlaw42_CollectComplete.l0] at H
       by_cases c14 : x9_2 < (l1.length : Int)
       ·rw [if_pos c14] at H
        have c14b0 : decide (x9_2 < (l1.length : Int)) = true := decide_eq_true c14
        clear c14
        by_cases c15 : 0 ≤ x9_2
        ·rw [if_pos c15] at H
         have c15b0 : decide (0 ≤ x9_2) = true := decide_eq_true c15
         clear c15
         by_cases c16 : (IntKind.u64.wrap (wrap64 (a0 + 1))) = 0
         ·rw [if_pos c16] at H
          exact absurd H (by simp)
         ·rw [if_neg c16] at H
          have c16b0 : ((IntKind.u64.wrap (wrap64 (a0 + 1))) == 0) = false := beq_eq_false_iff_ne.mpr c16
          have c16b1 : ((IntKind.u64.wrap (wrap64 (a0 + 1))) != 0) = true := bne_iff_ne.mpr c16
          by_cases c17 : (IntKind.u64.wrap (wrap64 ((wrap64 (a0 - (wrap64 (Int.tmod (IntKind.u64.wrap ((rd_T46 l1 x9_2).f0)) (IntKind.u64.wrap (wrap64 (a0 + 1))))))) + 1))) = 0
          ·rw [if_pos c17] at H
           exact absurd H (by simp)
          ·rw [if_neg c17] at H
           have c17b0 : ((IntKind.u64.wrap (wrap64 ((wrap64 (a0 - (wrap64 (Int.tmod (IntKind.u64.wrap ((rd_T46 l1 x9_2).f0)) (IntKind.u64.wrap (wrap64 (a0 + 1))))))) + 1))) == 0) = false := beq_eq_false_iff_ne.mpr c17
           have c17b1 : ((IntKind.u64.wrap (wrap64 ((wrap64 (a0 - (wrap64 (Int.tmod (IntKind.u64.wrap ((rd_T46 l1 x9_2).f0)) (IntKind.u64.wrap (wrap64 (a0 + 1))))))) + 1))) != 0) = true := bne_iff_ne.mpr c17
           obtain ⟨ji18, hji18⟩ : ∃ j_ : Int, (wrap64 (Int.tmod (IntKind.u64.wrap ((rd_T46 l1 x9_2).f0)) (IntKind.u64.wrap (wrap64 (a0 + 1))))) = j_ := ⟨_, rfl⟩
           replace H : (if 0 ≤ (ji18) then (if (ji18) ≤ (wrap64 ((ji18) + (wrap64 (Int.tmod (IntKind.u64.wrap ((rd_T46 l1 x9_2).f1)) (IntKind.u64.wrap (wrap64 ((wrap64 (a0 - (ji18))) + 1))))))) then (if (wrap64 ((ji18) + (wrap64 (Int.tmod (IntKind.u64.wrap ((rd_T46 l1 x9_2).f1)) (IntKind.u64.wrap (wrap64 ((wrap64 (a0 - (ji18))) + 1))))))) ≤ (t181.length : Int) then ((collect_Collector_Take.f k2 x186000_2 ((t181.take ((wrap64 ((ji18) + (wrap64 (Int.tmod (IntKind.u64.wrap ((rd_T46 l1 x9_2).f1)) (IntKind.u64.wrap (wrap64 ((wrap64 (a0 - (ji18))) + 1))))))) : Int).toNat).drop ((ji18) : Int).toNat)).bind fun bt192 => (if bt192.2.1 = 0 then (if (wrap64 ((ji18) + (wrap64 (Int.tmod (IntKind.u64.wrap ((rd_T46 l1 x9_2).f1)) (IntKind.u64.wrap (wrap64 ((wrap64 (a0 - (ji18))) + 1))))))) > (ji18) then (if (wrap64 ((ji18) + (wrap64 (Int.tmod (IntKind.u64.wrap ((rd_T46 l1 x9_2).f1)) (IntKind.u64.wrap (wrap64 ((wrap64 (a0 - (ji18))) + 1))))))) > x7_2 then (plenumlaw42_CollectComplete.l0 k2 a0 l1 t181 (wrap64 ((ji18) + (wrap64 (Int.tmod (IntKind.u64.wrap ((rd_T46 l1 x9_2).f1)) (IntKind.u64.wrap (wrap64 ((wrap64 (a0 - (ji18))) + 1))))))) (wrap64 (x8_2 + (mx 0 (wrap64 ((ji18) - x7_2))))) (wrap64 (x9_2 + 1)) bt192.2.2) else (plenumlaw42_CollectComplete.l0 k2 a0 l1 t181 x7_2 x8_2 (wrap64 (x9_2 + 1)) bt192.2.2)) else (plenumlaw42_CollectComplete.l0 k2 a0 l1 t181 x7_2 x8_2 (wrap64 (x9_2 + 1)) bt192.2.2)) else (some false))) else (none)) else (none)) else (none)) = some r := by first | (rw [hji18] at H; exact H) | (simp only [hji18] at H ⊢; exact H)
           (try rw [hji18] at c17)
           (try rw [hji18] at c17b0)
           (try rw [hji18] at c17b1)
           have hji18w : (IntKind.i64.wrap (Int.tmod (IntKind.u64.wrap ((rd_T46 l1 x9_2).f0)) (IntKind.u64.wrap (wrap64 (a0 + 1))))) = ji18 := (i64_w _).trans hji18
           by_cases c19 : 0 ≤ (ji18)
           ·rw [if_pos c19] at H
            have c19b0 := eq_true c19
            have c19b1 : decide (0 ≤ (ji18)) = true := decide_eq_true c19
            clear c19
            by_cases c20 : (ji18) ≤ (wrap64 ((ji18) + (wrap64 (Int.tmod (IntKind.u64.wrap ((rd_T46 l1 x9_2).f1)) (IntKind.u64.wrap (wrap64 ((wrap64 (a0 - (ji18))) + 1)))))))
            ·rw [if_pos c20] at H
             have c20b0 := eq_true c20
             have c20b1 : decide ((ji18) ≤ (wrap64 ((ji18) + (wrap64 (Int.tmod (IntKind.u64.wrap ((rd_T46 l1 x9_2).f1)) (IntKind.u64.wrap (wrap64 ((wrap64 (a0 - (ji18))) + 1)))))))) = true := decide_eq_true c20
             by_cases c21 : (wrap64 ((ji18) + (wrap64 (Int.tmod (IntKind.u64.wrap ((rd_T46 l1 x9_2).f1)) (IntKind.u64.wrap (wrap64 ((wrap64 (a0 - (ji18))) + 1))))))) ≤ (t181.length : Int)
             ·rw [if_pos c21] at H
              have c21b0 := eq_true c21
              have c21b1 : decide ((wrap64 ((ji18) + (wrap64 (Int.tmod (IntKind.u64.wrap ((rd_T46 l1 x9_2).f1)) (IntKind.u64.wrap (wrap64 ((wrap64 (a0 - (ji18))) + 1))))))) ≤ (t181.length : Int)) = true := decide_eq_true c21
              obtain ⟨y188, hy188⟩ : ∃ y_ : List (S42), y_ = ((t181.take ((wrap64 ((ji18) + (wrap64 (Int.tmod (IntKind.u64.wrap ((rd_T46 l1 x9_2).f1)) (IntKind.u64.wrap (wrap64 ((wrap64 (a0 - (ji18))) + 1))))))) : Int).toNat).drop ((ji18) : Int).toNat) := ⟨_, rfl⟩
              replace H : ((collect_Collector_Take.f k2 x186000_2 y188).bind fun bt192 => (if bt192.2.1 = 0 then (if (wrap64 ((ji18) + (wrap64 (Int.tmod (IntKind.u64.wrap ((rd_T46 l1 x9_2).f1)) (IntKind.u64.wrap (wrap64 ((wrap64 (a0 - (ji18))) + 1))))))) > (ji18) then (if (wrap64 ((ji18) + (wrap64 (Int.tmod (IntKind.u64.wrap ((rd_T46 l1 x9_2).f1)) (IntKind.u64.wrap (wrap64 ((wrap64 (a0 - (ji18))) + 1))))))) > x7_2 then (plenumlaw42_CollectComplete.l0 k2 a0 l1 t181 (wrap64 ((ji18) + (wrap64 (Int.tmod (IntKind.u64.wrap ((rd_T46 l1 x9_2).f1)) (IntKind.u64.wrap (wrap64 ((wrap64 (a0 - (ji18))) + 1))))))) (wrap64 (x8_2 + (mx 0 (wrap64 ((ji18) - x7_2))))) (wrap64 (x9_2 + 1)) bt192.2.2) else (plenumlaw42_CollectComplete.l0 k2 a0 l1 t181 x7_2 x8_2 (wrap64 (x9_2 + 1)) bt192.2.2)) else (plenumlaw42_CollectComplete.l0 k2 a0 l1 t181 x7_2 x8_2 (wrap64 (x9_2 + 1)) bt192.2.2)) else (some false))) = some r := by first | (rw [hy188]; with_reducible exact H) | (have H2_ := (Option.bind_some _ _).symm.trans H; rw [hy188]; with_reducible exact H2_) | (have H2_ := (Option.bind_some _ _).symm.trans H; with_reducible exact H2_) | with_reducible exact H | (rw [hy188]; exact H) | exact H
              have Ny188 := Aside0.mk hy188
              clear hy188
              replace H := Option.bind_eq_some_iff.mp H
              obtain ⟨⟨t192, t193, t194⟩, A220, H⟩ := H
              replace H : (if t193 = 0 then (if (wrap64 ((ji18) + (wrap64 (Int.tmod (IntKind.u64.wrap ((rd_T46 l1 x9_2).f1)) (IntKind.u64.wrap (wrap64 ((wrap64 (a0 - (ji18))) + 1))))))) > (ji18) then (if (wrap64 ((ji18) + (wrap64 (Int.tmod (IntKind.u64.wrap ((rd_T46 l1 x9_2).f1)) (IntKind.u64.wrap (wrap64 ((wrap64 (a0 - (ji18))) + 1))))))) > x7_2 then (plenumlaw42_CollectComplete.l0 k2 a0 l1 t181 (wrap64 ((ji18) + (wrap64 (Int.tmod (IntKind.u64.wrap ((rd_T46 l1 x9_2).f1)) (IntKind.u64.wrap (wrap64 ((wrap64 (a0 - (ji18))) + 1))))))) (wrap64 (x8_2 + (mx 0 (wrap64 ((ji18) - x7_2))))) (wrap64 (x9_2 + 1)) t194) else (plenumlaw42_CollectComplete.l0 k2 a0 l1 t181 x7_2 x8_2 (wrap64 (x9_2 + 1)) t194)) else (plenumlaw42_CollectComplete.l0 k2 a0 l1 t181 x7_2 x8_2 (wrap64 (x9_2 + 1)) t194)) else (some false)) = some r := H
              have A22 := Aside0.mk A220
              clear A220
              by_cases c23 : t193 = 0
              ·rw [if_pos c23] at H
               have c23b0 : (t193 == 0) = true := beq_iff_eq.mpr c23
               have c23b1 : (t193 != 0) = false := bne_eq_false_iff_eq.mpr c23
               clear c23
               by_cases c24 : (wrap64 ((ji18) + (wrap64 (Int.tmod (IntKind.u64.wrap ((rd_T46 l1 x9_2).f1)) (IntKind.u64.wrap (wrap64 ((wrap64 (a0 - (ji18))) + 1))))))) > (ji18)
               ·rw [if_pos c24] at H
                have c24b0 : decide ((ji18) < (wrap64 ((ji18) + (wrap64 (Int.tmod (IntKind.u64.wrap ((rd_T46 l1 x9_2).f1)) (IntKind.u64.wrap (wrap64 ((wrap64 (a0 - (ji18))) + 1)))))))) = true := decide_eq_true c24
                clear c24
                by_cases c25 : (wrap64 ((ji18) + (wrap64 (Int.tmod (IntKind.u64.wrap ((rd_T46 l1 x9_2).f1)) (IntKind.u64.wrap (wrap64 ((wrap64 (a0 - (ji18))) + 1))))))) > x7_2
                ·rw [if_pos c25] at H
                 have c25b0 : decide (x7_2 < (wrap64 ((ji18) + (wrap64 (Int.tmod (IntKind.u64.wrap ((rd_T46 l1 x9_2).f1)) (IntKind.u64.wrap (wrap64 ((wrap64 (a0 - (ji18))) + 1)))))))) = true := decide_eq_true c25
                 clear c25
                 obtain ⟨ji26, hji26⟩ : ∃ j_ : Int, (mx 0 (wrap64 ((ji18) - x7_2))) = j_ := ⟨_, rfl⟩
                 replace H : (plenumlaw42_CollectComplete.l0 k2 a0 l1 t181 (wrap64 ((ji18) + (wrap64 (Int.tmod (IntKind.u64.wrap ((rd_T46 l1 x9_2).f1)) (IntKind.u64.wrap (wrap64 ((wrap64 (a0 - (ji18))) + 1))))))) (wrap64 (x8_2 + (ji26))) (wrap64 (x9_2 + 1)) t194) = some r := by first | (rw [hji26] at H; exact H) | (simp only [hji26] at H ⊢; exact H)
                 (try rw [hji26] at A22)
                 have hji26_ : (if 0 < (wrap64 ((ji18) - x7_2)) then (wrap64 ((ji18) - x7_2)) else 0) = ji26 := hji26
                 have H' := Aside0.mk H
                 clear H
                 have p186 : 0 ≤ (x9_2 : Int) := of_decide_eq_true (by first | (with_reducible assumption) | assumption)
                 have q186 : x9_2 < (l1.length : Int) := of_decide_eq_true (by first | (with_reducible assumption) | assumption)
                 obtain ⟨ad186, e186, hx186_0, hx186_1⟩ := at_T46 HR1.out x9_2 p186 q186
                 cases e186
                 replace hx186_0 := (HB.out.cell (World.block_lt_of_cell? w _ hx186_0)).trans hx186_0
                 replace hx186_1 := (HB.out.cell (World.block_lt_of_cell? w _ hx186_1)).trans hx186_1
                 replace p186 := eq_true p186
                 replace q186 := eq_true q186
                 have p187 : 0 ≤ (x9_2 : Int) := of_decide_eq_true (by first | (with_reducible assumption) | assumption)
                 have q187 : x9_2 < (l1.length : Int) := of_decide_eq_true (by first | (with_reducible assumption) | assumption)
                 obtain ⟨ad187, e187, hx187_0, hx187_1⟩ := at_T46 HR1.out x9_2 p187 q187
                 obtain rfl : ad186 = ad187 := (by injection e187)
                 replace hx187_0 := (HB.out.cell (World.block_lt_of_cell? w _ hx187_0)).trans hx187_0
                 replace hx187_1 := (HB.out.cell (World.block_lt_of_cell? w _ hx187_1)).trans hx187_1
                 replace p187 := eq_true p187
                 replace q187 := eq_true q187
                 obtain ⟨Ao28, co28, eo28⟩ := Kd.R_slice HO_5.out
                 subst eo28
                 have q27 : ((wrap64 ((ji18) + (wrap64 (Int.tmod (IntKind.u64.wrap ((rd_T46 l1 x9_2).f1)) (IntKind.u64.wrap (wrap64 ((wrap64 (a0 - (ji18))) + 1))))))) : Int) ≤ ((t181.length : Int) : Int) := of_decide_eq_true (by first | (with_reducible assumption) | assumption)
                 obtain ⟨i027, hi027, _, hsz27, _⟩ := info_parts info42
                 have hroom27 : t181.length ≤ co28 := (Kd.R_reads' HO_5.out).2.1
                 have hC27 : Kd.C k42 _ Ao28 t181.length t181 := (Kd.R_reads' HO_5.out).2.2
                 have ql27 : ((ji18) : Int) ≤ ((wrap64 ((ji18) + (wrap64 (Int.tmod (IntKind.u64.wrap ((rd_T46 l1 x9_2).f1)) (IntKind.u64.wrap (wrap64 ((wrap64 (a0 - (ji18))) + 1))))))) : Int) := of_decide_eq_true (by first | (with_reducible assumption) | assumption)
                 have q027 : (0 : Int) ≤ ((ji18) : Int) := of_decide_eq_true (by first | (with_reducible assumption) | assumption)
                 have hcut27 := cut_mid (P := Try.prog) 27 42 .i64 .i64 Try.underlying27 hi027 6 hsz27 Ao28 t181.length co28 (ji18) (wrap64 ((ji18) + (wrap64 (Int.tmod (IntKind.u64.wrap ((rd_T46 l1 x9_2).f1)) (IntKind.u64.wrap (wrap64 ((wrap64 (a0 - (ji18))) + 1))))))) q027 ql27 q27 hroom27
                 have hr27 := Kd.C_mid (lo := ((ji18) : Int).toNat) (hi := ((wrap64 ((ji18) + (wrap64 (Int.tmod (IntKind.u64.wrap ((rd_T46 l1 x9_2).f1)) (IntKind.u64.wrap (wrap64 ((wrap64 (a0 - (ji18))) + 1))))))) : Int).toNat) (c := co28) hC27 (by omega) (by omega) hroom27
                 obtain ⟨A27, hA27⟩ : ∃ A1, A1 = (if co28 = ((ji18) : Int).toNat then Ao28 else (Ao28 : Option Addr).map (·.add (((ji18) : Int).toNat * 6))) := ⟨_, rfl⟩
                 obtain ⟨c27, hc27⟩ : ∃ c1, c1 = co28 - ((ji18) : Int).toNat := ⟨_, rfl⟩
                 have hy27 : y188.length = ((wrap64 ((ji18) + (wrap64 (Int.tmod (IntKind.u64.wrap ((rd_T46 l1 x9_2).f1)) (IntKind.u64.wrap (wrap64 ((wrap64 (a0 - (ji18))) + 1))))))) : Int).toNat - ((ji18) : Int).toNat := (by rw [Ny188.out, List.length_drop, List.length_take] <;> omega)
                 rw [show ((t181).take ((wrap64 ((ji18) + (wrap64 (Int.tmod (IntKind.u64.wrap ((rd_T46 l1 x9_2).f1)) (IntKind.u64.wrap (wrap64 ((wrap64 (a0 - (ji18))) + 1))))))) : Int).toNat).drop ((ji18) : Int).toNat = y188 from Ny188.out.symm] at hr27
                 replace hr27 : Kd.C k42 _ A27 y188.length y188 := (by rw [hA27]; exact hr27)
                 rw [← hy27, ← hA27, ← hc27] at hcut27
                 have HR191 := Aside0.mk hr27
                 have HC191 := Aside0.mk (show y188.length ≤ c27 from by rw [hy27, hc27]; exact Nat.sub_le_sub_right (Nat.le_trans (by omega) hroom27) _)
                 clear hr27 hC27 hroom27 hi027 hsz27 hc27
                 have KY27 := Aside0.mk hy27
                 have KA27 := Aside0.mk hA27
                 clear hy27 hA27
                 have KL27 := Aside0.mk (show ((wrap64 ((ji18) + (wrap64 (Int.tmod (IntKind.u64.wrap ((rd_T46 l1 x9_2).f1)) (IntKind.u64.wrap (wrap64 ((wrap64 (a0 - (ji18))) + 1))))))) : Int).toNat ≤ t181.length from by omega)
                 have KM27 := Aside0.mk (show ((ji18) : Int).toNat ≤ ((wrap64 ((ji18) + (wrap64 (Int.tmod (IntKind.u64.wrap ((rd_T46 l1 x9_2).f1)) (IntKind.u64.wrap (wrap64 ((wrap64 (a0 - (ji18))) + 1))))))) : Int).toNat from by omega)
                 replace q27 := eq_true q27
                 go_wp2_with (first | (go_at_call 13; (with_reducible refine (collect_Collector_Take.calls k2 g185 x186000_2 _ _ y188 t192 t193 t194 w _ ?side1 ?side2 ?side3 ?side4 A22.out).mono ?_); (case side1 => repeat (first | (with_reducible first | exact HI185.out | apply IsS58.alloc | apply IsS58.drewN | apply IsS58.drew | apply IsS58.set_0) | exact HI185.out)); (case side2 => repeat (first | (with_reducible first | exact HB.out | apply below_alloc | apply pw_below_drewN | apply below_drew1 | refine below_set ?_ (IsS58.ge HI185.out)) | exact HB.out)); (case side3 => exact fun W_ hk_ => (by have q1_ := IsS58.apart (show IsS58 w _ g185 x186000_2 from by repeat (first | (with_reducible first | exact HI185.out | apply IsS58.alloc | apply IsS58.drewN | apply IsS58.drew | apply IsS58.set_0) | exact HI185.out)) (by (with_reducible repeat (first | apply Kd.R_alloc | apply Kd.R_drewN | apply Kd.R_drew)); exact HO_5.out) (by decide); have hC_ := Kd.C_foot_own (q1_) (fun _ h_ => h_.2) W_ hk_; have hR_ := ((Kd.R_reads' q1_).2.1); have q3_ := Kd.C_mid (lo := ((ji18) : Int).toNat) (hi := ((wrap64 ((ji18) + (wrap64 (Int.tmod (IntKind.u64.wrap ((rd_T46 l1 x9_2).f1)) (IntKind.u64.wrap (wrap64 ((wrap64 (a0 - (ji18))) + 1))))))) : Int).toNat) (c := co28) hC_ KM27.out KL27.out hR_; have q4_ : Kd.C k42 W_ A27 y188.length y188 := (by rw [Ny188.out, KA27.out]; exact q3_); exact q4_)); (case side4 => exact HC191.out); rintro e w29 ⟨rfl, hi, hb, hk⟩; have n0_ := Aside0.mk (Kd.R_mono (Kd.R_keep (IsS58.apart (show IsS58 w _ g185 x186000_2 from by repeat (first | (with_reducible first | exact HI185.out | apply IsS58.alloc | apply IsS58.drewN | apply IsS58.drew | apply IsS58.set_0) | exact HI185.out)) (by (with_reducible repeat (first | apply Kd.R_alloc | apply Kd.R_drewN | apply Kd.R_drew)); exact HO_5.out) (by decide)) hk (fun _ h => h.2)) (fun _ h => h.1)); have n1_ := Aside0.mk (hb); have n2_ := Aside0.mk (hi); clear HO_5; clear HB; clear HI185; have HO_5 := n0_; have HB := n1_; have HI185 := n2_; clear n0_ n1_ n2_; (try clear hb); (try clear hb2); (try clear hk); (try clear hi)))
                 repeat (go_quiet (first | (go_at_call 13; (with_reducible refine (collect_Collector_Take.calls k2 g185 x186000_2 _ _ y188 t192 t193 t194 w _ ?side1 ?side2 ?side3 ?side4 A22.out).mono ?_); (case side1 => repeat (first | (with_reducible first | exact HI185.out | apply IsS58.alloc | apply IsS58.drewN | apply IsS58.drew | apply IsS58.set_0) | exact HI185.out)); (case side2 => repeat (first | (with_reducible first | exact HB.out | apply below_alloc | apply pw_below_drewN | apply below_drew1 | refine below_set ?_ (IsS58.ge HI185.out)) | exact HB.out)); (case side3 => exact fun W_ hk_ => (by have q1_ := IsS58.apart (show IsS58 w _ g185 x186000_2 from by repeat (first | (with_reducible first | exact HI185.out | apply IsS58.alloc | apply IsS58.drewN | apply IsS58.drew | apply IsS58.set_0) | exact HI185.out)) (by (with_reducible repeat (first | apply Kd.R_alloc | apply Kd.R_drewN | apply Kd.R_drew)); exact HO_5.out) (by decide); have hC_ := Kd.C_foot_own (q1_) (fun _ h_ => h_.2) W_ hk_; have hR_ := ((Kd.R_reads' q1_).2.1); have q3_ := Kd.C_mid (lo := ((ji18) : Int).toNat) (hi := ((wrap64 ((ji18) + (wrap64 (Int.tmod (IntKind.u64.wrap ((rd_T46 l1 x9_2).f1)) (IntKind.u64.wrap (wrap64 ((wrap64 (a0 - (ji18))) + 1))))))) : Int).toNat) (c := co28) hC_ KM27.out KL27.out hR_; have q4_ : Kd.C k42 W_ A27 y188.length y188 := (by rw [Ny188.out, KA27.out]; exact q3_); exact q4_)); (case side4 => exact HC191.out); rintro e w29 ⟨rfl, hi, hb, hk⟩; have n0_ := Aside0.mk (Kd.R_mono (Kd.R_keep (IsS58.apart (show IsS58 w _ g185 x186000_2 from by repeat (first | (with_reducible first | exact HI185.out | apply IsS58.alloc | apply IsS58.drewN | apply IsS58.drew | apply IsS58.set_0) | exact HI185.out)) (by (with_reducible repeat (first | apply Kd.R_alloc | apply Kd.R_drewN | apply Kd.R_drew)); exact HO_5.out) (by decide)) hk (fun _ h => h.2)) (fun _ h => h.1)); have n1_ := Aside0.mk (hb); have n2_ := Aside0.mk (hi); clear HO_5; clear HB; clear HI185; have HO_5 := n0_; have HB := n1_; have HI185 := n2_; clear n0_ n1_ n2_; (try clear hb); (try clear hb2); (try clear hk); (try clear hi))); try go_wp2_with (first | (go_at_call 13; (with_reducible refine (collect_Collector_Take.calls k2 g185 x186000_2 _ _ y188 t192 t193 t194 w _ ?side1 ?side2 ?side3 ?side4 A22.out).mono ?_); (case side1 => repeat (first | (with_reducible first | exact HI185.out | apply IsS58.alloc | apply IsS58.drewN | apply IsS58.drew | apply IsS58.set_0) | exact HI185.out)); (case side2 => repeat (first | (with_reducible first | exact HB.out | apply below_alloc | apply pw_below_drewN | apply below_drew1 | refine below_set ?_ (IsS58.ge HI185.out)) | exact HB.out)); (case side3 => exact fun W_ hk_ => (by have q1_ := IsS58.apart (show IsS58 w _ g185 x186000_2 from by repeat (first | (with_reducible first | exact HI185.out | apply IsS58.alloc | apply IsS58.drewN | apply IsS58.drew | apply IsS58.set_0) | exact HI185.out)) (by (with_reducible repeat (first | apply Kd.R_alloc | apply Kd.R_drewN | apply Kd.R_drew)); exact HO_5.out) (by decide); have hC_ := Kd.C_foot_own (q1_) (fun _ h_ => h_.2) W_ hk_; have hR_ := ((Kd.R_reads' q1_).2.1); have q3_ := Kd.C_mid (lo := ((ji18) : Int).toNat) (hi := ((wrap64 ((ji18) + (wrap64 (Int.tmod (IntKind.u64.wrap ((rd_T46 l1 x9_2).f1)) (IntKind.u64.wrap (wrap64 ((wrap64 (a0 - (ji18))) + 1))))))) : Int).toNat) (c := co28) hC_ KM27.out KL27.out hR_; have q4_ : Kd.C k42 W_ A27 y188.length y188 := (by rw [Ny188.out, KA27.out]; exact q3_); exact q4_)); (case side4 => exact HC191.out); rintro e w29 ⟨rfl, hi, hb, hk⟩; have n0_ := Aside0.mk (Kd.R_mono (Kd.R_keep (IsS58.apart (show IsS58 w _ g185 x186000_2 from by repeat (first | (with_reducible first | exact HI185.out | apply IsS58.alloc | apply IsS58.drewN | apply IsS58.drew | apply IsS58.set_0) | exact HI185.out)) (by (with_reducible repeat (first | apply Kd.R_alloc | apply Kd.R_drewN | apply Kd.R_drew)); exact HO_5.out) (by decide)) hk (fun _ h => h.2)) (fun _ h => h.1)); have n1_ := Aside0.mk (hb); have n2_ := Aside0.mk (hi); clear HO_5; clear HB; clear HI185; have HO_5 := n0_; have HB := n1_; have HI185 := n2_; clear n0_ n1_ n2_; (try clear hb); (try clear hb2); (try clear hk); (try clear hi))))
                 go_roundg k2
                 case measure => have := HJ4.out; have := HK2.out; omega
                 case rel => exact ⟨(wrap64 ((ji18) + (wrap64 (Int.tmod (IntKind.u64.wrap ((rd_T46 l1 x9_2).f1)) (IntKind.u64.wrap (wrap64 ((wrap64 (a0 - (ji18))) + 1))))))), (wrap64 (x8_2 + (ji26))), (wrap64 (x9_2 + 1)), (t194), (by first | rfl | (simp; done) | (simp only [← hji18] <;> (first | rfl | simp)) | (simp [*]; done)), (by first | rfl | (simp; done) | (simp only [← hji26] <;> (first | rfl | simp)) | (simp [*]; done)), (by first | rfl | (simp; done) | (simp [*]; done)), H', ⟨by have := HJ4.out; have := HK2.out; omega⟩, ⟨by (with_reducible repeat (first | apply Kd.R_alloc | apply Kd.R_drewN | apply Kd.R_drew)); exact HO_5.out⟩, ⟨by repeat (first | (with_reducible first | exact HI185.out | apply IsS58.alloc | apply IsS58.drewN | apply IsS58.drew | apply IsS58.set_0) | exact HI185.out)⟩, ⟨by repeat (first | (with_reducible first | exact HB.out | apply below_alloc | apply pw_below_drewN | apply below_drew1 | refine below_set ?_ (IsS58.ge HI185.out)) | exact HB.out)⟩⟩
                ·rw [if_neg c25] at H
                 have c25b0 : decide (x7_2 < (wrap64 ((ji18) + (wrap64 (Int.tmod (IntKind.u64.wrap ((rd_T46 l1 x9_2).f1)) (IntKind.u64.wrap (wrap64 ((wrap64 (a0 - (ji18))) + 1)))))))) = false := decide_eq_false c25
                 clear c25
                 have H' := Aside0.mk H
                 clear H
                 have p186 : 0 ≤ (x9_2 : Int) := of_decide_eq_true (by first | (with_reducible assumption) | assumption)
                 have q186 : x9_2 < (l1.length : Int) := of_decide_eq_true (by first | (with_reducible assumption) | assumption)
                 obtain ⟨ad186, e186, hx186_0, hx186_1⟩ := at_T46 HR1.out x9_2 p186 q186
                 cases e186
                 replace hx186_0 := (HB.out.cell (World.block_lt_of_cell? w _ hx186_0)).trans hx186_0
                 replace hx186_1 := (HB.out.cell (World.block_lt_of_cell? w _ hx186_1)).trans hx186_1
                 replace p186 := eq_true p186
                 replace q186 := eq_true q186
                 have p187 : 0 ≤ (x9_2 : Int) := of_decide_eq_true (by first | (with_reducible assumption) | assumption)
                 have q187 : x9_2 < (l1.length : Int) := of_decide_eq_true (by first | (with_reducible assumption) | assumption)
                 obtain ⟨ad187, e187, hx187_0, hx187_1⟩ := at_T46 HR1.out x9_2 p187 q187
                 obtain rfl : ad186 = ad187 := (by injection e187)
                 replace hx187_0 := (HB.out.cell (World.block_lt_of_cell? w _ hx187_0)).trans hx187_0
                 replace hx187_1 := (HB.out.cell (World.block_lt_of_cell? w _ hx187_1)).trans hx187_1
                 replace p187 := eq_true p187
                 replace q187 := eq_true q187
                 obtain ⟨Ao31, co31, eo31⟩ := Kd.R_slice HO_5.out
                 subst eo31
                 have q30 : ((wrap64 ((ji18) + (wrap64 (Int.tmod (IntKind.u64.wrap ((rd_T46 l1 x9_2).f1)) (IntKind.u64.wrap (wrap64 ((wrap64 (a0 - (ji18))) + 1))))))) : Int) ≤ ((t181.length : Int) : Int) := of_decide_eq_true (by first | (with_reducible assumption) | assumption)
                 obtain ⟨i030, hi030, _, hsz30, _⟩ := info_parts info42
                 have hroom30 : t181.length ≤ co31 := (Kd.R_reads' HO_5.out).2.1
                 have hC30 : Kd.C k42 _ Ao31 t181.length t181 := (Kd.R_reads' HO_5.out).2.2
                 have ql30 : ((ji18) : Int) ≤ ((wrap64 ((ji18) + (wrap64 (Int.tmod (IntKind.u64.wrap ((rd_T46 l1 x9_2).f1)) (IntKind.u64.wrap (wrap64 ((wrap64 (a0 - (ji18))) + 1))))))) : Int) := of_decide_eq_true (by first | (with_reducible assumption) | assumption)
                 have q030 : (0 : Int) ≤ ((ji18) : Int) := of_decide_eq_true (by first | (with_reducible assumption) | assumption)
                 have hcut30 := cut_mid (P := Try.prog) 27 42 .i64 .i64 Try.underlying27 hi030 6 hsz30 Ao31 t181.length co31 (ji18) (wrap64 ((ji18) + (wrap64 (Int.tmod (IntKind.u64.wrap ((rd_T46 l1 x9_2).f1)) (IntKind.u64.wrap (wrap64 ((wrap64 (a0 - (ji18))) + 1))))))) q030 ql30 q30 hroom30
                 have hr30 := Kd.C_mid (lo := ((ji18) : Int).toNat) (hi := ((wrap64 ((ji18) + (wrap64 (Int.tmod (IntKind.u64.wrap ((rd_T46 l1 x9_2).f1)) (IntKind.u64.wrap (wrap64 ((wrap64 (a0 - (ji18))) + 1))))))) : Int).toNat) (c := co31) hC30 (by omega) (by omega) hroom30
                 obtain ⟨A30, hA30⟩ : ∃ A1, A1 = (if co31 = ((ji18) : Int).toNat then Ao31 else (Ao31 : Option Addr).map (·.add (((ji18) : Int).toNat * 6))) := ⟨_, rfl⟩
                 obtain ⟨c30, hc30⟩ : ∃ c1, c1 = co31 - ((ji18) : Int).toNat := ⟨_, rfl⟩
                 have hy30 : y188.length = ((wrap64 ((ji18) + (wrap64 (Int.tmod (IntKind.u64.wrap ((rd_T46 l1 x9_2).f1)) (IntKind.u64.wrap (wrap64 ((wrap64 (a0 - (ji18))) + 1))))))) : Int).toNat - ((ji18) : Int).toNat := (by rw [Ny188.out, List.length_drop, List.length_take] <;> omega)
                 rw [show ((t181).take ((wrap64 ((ji18) + (wrap64 (Int.tmod (IntKind.u64.wrap ((rd_T46 l1 x9_2).f1)) (IntKind.u64.wrap (wrap64 ((wrap64 (a0 - (ji18))) + 1))))))) : Int).toNat).drop ((ji18) : Int).toNat = y188 from Ny188.out.symm] at hr30
                 replace hr30 : Kd.C k42 _ A30 y188.length y188 := (by rw [hA30]; exact hr30)
                 rw [← hy30, ← hA30, ← hc30] at hcut30
                 have HR191 := Aside0.mk hr30
                 have HC191 := Aside0.mk (show y188.length ≤ c30 from by rw [hy30, hc30]; exact Nat.sub_le_sub_right (Nat.le_trans (by omega) hroom30) _)
                 clear hr30 hC30 hroom30 hi030 hsz30 hc30
                 have KY30 := Aside0.mk hy30
                 have KA30 := Aside0.mk hA30
                 clear hy30 hA30
                 have KL30 := Aside0.mk (show ((wrap64 ((ji18) + (wrap64 (Int.tmod (IntKind.u64.wrap ((rd_T46 l1 x9_2).f1)) (IntKind.u64.wrap (wrap64 ((wrap64 (a0 - (ji18))) + 1))))))) : Int).toNat ≤ t181.length from by omega)
                 have KM30 := Aside0.mk (show ((ji18) : Int).toNat ≤ ((wrap64 ((ji18) + (wrap64 (Int.tmod (IntKind.u64.wrap ((rd_T46 l1 x9_2).f1)) (IntKind.u64.wrap (wrap64 ((wrap64 (a0 - (ji18))) + 1))))))) : Int).toNat from by omega)
                 replace q30 := eq_true q30
                 go_wp2_with (first | (go_at_call 13; (with_reducible refine (collect_Collector_Take.calls k2 g185 x186000_2 _ _ y188 t192 t193 t194 w _ ?side1 ?side2 ?side3 ?side4 A22.out).mono ?_); (case side1 => repeat (first | (with_reducible first | exact HI185.out | apply IsS58.alloc | apply IsS58.drewN | apply IsS58.drew | apply IsS58.set_0) | exact HI185.out)); (case side2 => repeat (first | (with_reducible first | exact HB.out | apply below_alloc | apply pw_below_drewN | apply below_drew1 | refine below_set ?_ (IsS58.ge HI185.out)) | exact HB.out)); (case side3 => exact fun W_ hk_ => (by have q1_ := IsS58.apart (show IsS58 w _ g185 x186000_2 from by repeat (first | (with_reducible first | exact HI185.out | apply IsS58.alloc | apply IsS58.drewN | apply IsS58.drew | apply IsS58.set_0) | exact HI185.out)) (by (with_reducible repeat (first | apply Kd.R_alloc | apply Kd.R_drewN | apply Kd.R_drew)); exact HO_5.out) (by decide); have hC_ := Kd.C_foot_own (q1_) (fun _ h_ => h_.2) W_ hk_; have hR_ := ((Kd.R_reads' q1_).2.1); have q3_ := Kd.C_mid (lo := ((ji18) : Int).toNat) (hi := ((wrap64 ((ji18) + (wrap64 (Int.tmod (IntKind.u64.wrap ((rd_T46 l1 x9_2).f1)) (IntKind.u64.wrap (wrap64 ((wrap64 (a0 - (ji18))) + 1))))))) : Int).toNat) (c := co31) hC_ KM30.out KL30.out hR_; have q4_ : Kd.C k42 W_ A30 y188.length y188 := (by rw [Ny188.out, KA30.out]; exact q3_); exact q4_)); (case side4 => exact HC191.out); rintro e w32 ⟨rfl, hi, hb, hk⟩; have n0_ := Aside0.mk (Kd.R_mono (Kd.R_keep (IsS58.apart (show IsS58 w _ g185 x186000_2 from by repeat (first | (with_reducible first | exact HI185.out | apply IsS58.alloc | apply IsS58.drewN | apply IsS58.drew | apply IsS58.set_0) | exact HI185.out)) (by (with_reducible repeat (first | apply Kd.R_alloc | apply Kd.R_drewN | apply Kd.R_drew)); exact HO_5.out) (by decide)) hk (fun _ h => h.2)) (fun _ h => h.1)); have n1_ := Aside0.mk (hb); have n2_ := Aside0.mk (hi); clear HO_5; clear HB; clear HI185; have HO_5 := n0_; have HB := n1_; have HI185 := n2_; clear n0_ n1_ n2_; (try clear hb); (try clear hb2); (try clear hk); (try clear hi)))
                 repeat (go_quiet (first | (go_at_call 13; (with_reducible refine (collect_Collector_Take.calls k2 g185 x186000_2 _ _ y188 t192 t193 t194 w _ ?side1 ?side2 ?side3 ?side4 A22.out).mono ?_); (case side1 => repeat (first | (with_reducible first | exact HI185.out | apply IsS58.alloc | apply IsS58.drewN | apply IsS58.drew | apply IsS58.set_0) | exact HI185.out)); (case side2 => repeat (first | (with_reducible first | exact HB.out | apply below_alloc | apply pw_below_drewN | apply below_drew1 | refine below_set ?_ (IsS58.ge HI185.out)) | exact HB.out)); (case side3 => exact fun W_ hk_ => (by have q1_ := IsS58.apart (show IsS58 w _ g185 x186000_2 from by repeat (first | (with_reducible first | exact HI185.out | apply IsS58.alloc | apply IsS58.drewN | apply IsS58.drew | apply IsS58.set_0) | exact HI185.out)) (by (with_reducible repeat (first | apply Kd.R_alloc | apply Kd.R_drewN | apply Kd.R_drew)); exact HO_5.out) (by decide); have hC_ := Kd.C_foot_own (q1_) (fun _ h_ => h_.2) W_ hk_; have hR_ := ((Kd.R_reads' q1_).2.1); have q3_ := Kd.C_mid (lo := ((ji18) : Int).toNat) (hi := ((wrap64 ((ji18) + (wrap64 (Int.tmod (IntKind.u64.wrap ((rd_T46 l1 x9_2).f1)) (IntKind.u64.wrap (wrap64 ((wrap64 (a0 - (ji18))) + 1))))))) : Int).toNat) (c := co31) hC_ KM30.out KL30.out hR_; have q4_ : Kd.C k42 W_ A30 y188.length y188 := (by rw [Ny188.out, KA30.out]; exact q3_); exact q4_)); (case side4 => exact HC191.out); rintro e w32 ⟨rfl, hi, hb, hk⟩; have n0_ := Aside0.mk (Kd.R_mono (Kd.R_keep (IsS58.apart (show IsS58 w _ g185 x186000_2 from by repeat (first | (with_reducible first | exact HI185.out | apply IsS58.alloc | apply IsS58.drewN | apply IsS58.drew | apply IsS58.set_0) | exact HI185.out)) (by (with_reducible repeat (first | apply Kd.R_alloc | apply Kd.R_drewN | apply Kd.R_drew)); exact HO_5.out) (by decide)) hk (fun _ h => h.2)) (fun _ h => h.1)); have n1_ := Aside0.mk (hb); have n2_ := Aside0.mk (hi); clear HO_5; clear HB; clear HI185; have HO_5 := n0_; have HB := n1_; have HI185 := n2_; clear n0_ n1_ n2_; (try clear hb); (try clear hb2); (try clear hk); (try clear hi))); try go_wp2_with (first | (go_at_call 13; (with_reducible refine (collect_Collector_Take.calls k2 g185 x186000_2 _ _ y188 t192 t193 t194 w _ ?side1 ?side2 ?side3 ?side4 A22.out).mono ?_); (case side1 => repeat (first | (with_reducible first | exact HI185.out | apply IsS58.alloc | apply IsS58.drewN | apply IsS58.drew | apply IsS58.set_0) | exact HI185.out)); (case side2 => repeat (first | (with_reducible first | exact HB.out | apply below_alloc | apply pw_below_drewN | apply below_drew1 | refine below_set ?_ (IsS58.ge HI185.out)) | exact HB.out)); (case side3 => exact fun W_ hk_ => (by have q1_ := IsS58.apart (show IsS58 w _ g185 x186000_2 from by repeat (first | (with_reducible first | exact HI185.out | apply IsS58.alloc | apply IsS58.drewN | apply IsS58.drew | apply IsS58.set_0) | exact HI185.out)) (by (with_reducible repeat (first | apply Kd.R_alloc | apply Kd.R_drewN | apply Kd.R_drew)); exact HO_5.out) (by decide); have hC_ := Kd.C_foot_own (q1_) (fun _ h_ => h_.2) W_ hk_; have hR_ := ((Kd.R_reads' q1_).2.1); have q3_ := Kd.C_mid (lo := ((ji18) : Int).toNat) (hi := ((wrap64 ((ji18) + (wrap64 (Int.tmod (IntKind.u64.wrap ((rd_T46 l1 x9_2).f1)) (IntKind.u64.wrap (wrap64 ((wrap64 (a0 - (ji18))) + 1))))))) : Int).toNat) (c := co31) hC_ KM30.out KL30.out hR_; have q4_ : Kd.C k42 W_ A30 y188.length y188 := (by rw [Ny188.out, KA30.out]; exact q3_); exact q4_)); (case side4 => exact HC191.out); rintro e w32 ⟨rfl, hi, hb, hk⟩; have n0_ := Aside0.mk (Kd.R_mono (Kd.R_keep (IsS58.apart (show IsS58 w _ g185 x186000_2 from by repeat (first | (with_reducible first | exact HI185.out | apply IsS58.alloc | apply IsS58.drewN | apply IsS58.drew | apply IsS58.set_0) | exact HI185.out)) (by (with_reducible repeat (first | apply Kd.R_alloc | apply Kd.R_drewN | apply Kd.R_drew)); exact HO_5.out) (by decide)) hk (fun _ h => h.2)) (fun _ h => h.1)); have n1_ := Aside0.mk (hb); have n2_ := Aside0.mk (hi); clear HO_5; clear HB; clear HI185; have HO_5 := n0_; have HB := n1_; have HI185 := n2_; clear n0_ n1_ n2_; (try clear hb); (try clear hb2); (try clear hk); (try clear hi))))
                 go_roundg k2
                 case measure => have := HJ4.out; have := HK2.out; omega
                 case rel => exact ⟨(x7_2), (x8_2), (wrap64 (x9_2 + 1)), (t194), (by first | rfl | (simp; done) | (simp [*]; done)), (by first | rfl | (simp; done) | (simp [*]; done)), (by first | rfl | (simp; done) | (simp [*]; done)), H', ⟨by have := HJ4.out; have := HK2.out; omega⟩, ⟨by (with_reducible repeat (first | apply Kd.R_alloc | apply Kd.R_drewN | apply Kd.R_drew)); exact HO_5.out⟩, ⟨by repeat (first | (with_reducible first | exact HI185.out | apply IsS58.alloc | apply IsS58.drewN | apply IsS58.drew | apply IsS58.set_0) | exact HI185.out)⟩, ⟨by repeat (first | (with_reducible first | exact HB.out | apply below_alloc | apply pw_below_drewN | apply below_drew1 | refine below_set ?_ (IsS58.ge HI185.out)) | exact HB.out)⟩⟩
               ·rw [if_neg c24] at H
                have c24b0 : decide ((ji18) < (wrap64 ((ji18) + (wrap64 (Int.tmod (IntKind.u64.wrap ((rd_T46 l1 x9_2).f1)) (IntKind.u64.wrap (wrap64 ((wrap64 (a0 - (ji18))) + 1)))))))) = false := decide_eq_false c24
                clear c24
                have H' := Aside0.mk H
                clear H
                have p186 : 0 ≤ (x9_2 : Int) := of_decide_eq_true (by first | (with_reducible assumption) | assumption)
                have q186 : x9_2 < (l1.length : Int) := of_decide_eq_true (by first | (with_reducible assumption) | assumption)
                obtain ⟨ad186, e186, hx186_0, hx186_1⟩ := at_T46 HR1.out x9_2 p186 q186
                cases e186
                replace hx186_0 := (HB.out.cell (World.block_lt_of_cell? w _ hx186_0)).trans hx186_0
                replace hx186_1 := (HB.out.cell (World.block_lt_of_cell? w _ hx186_1)).trans hx186_1
                replace p186 := eq_true p186
                replace q186 := eq_true q186
                have p187 : 0 ≤ (x9_2 : Int) := of_decide_eq_true (by first | (with_reducible assumption) | assumption)
                have q187 : x9_2 < (l1.length : Int) := of_decide_eq_true (by first | (with_reducible assumption) | assumption)
                obtain ⟨ad187, e187, hx187_0, hx187_1⟩ := at_T46 HR1.out x9_2 p187 q187
                obtain rfl : ad186 = ad187 := (by injection e187)
                replace hx187_0 := (HB.out.cell (World.block_lt_of_cell? w _ hx187_0)).trans hx187_0
                replace hx187_1 := (HB.out.cell (World.block_lt_of_cell? w _ hx187_1)).trans hx187_1
                replace p187 := eq_true p187
                replace q187 := eq_true q187
                obtain ⟨Ao34, co34, eo34⟩ := Kd.R_slice HO_5.out
                subst eo34
                have q33 : ((wrap64 ((ji18) + (wrap64 (Int.tmod (IntKind.u64.wrap ((rd_T46 l1 x9_2).f1)) (IntKind.u64.wrap (wrap64 ((wrap64 (a0 - (ji18))) + 1))))))) : Int) ≤ ((t181.length : Int) : Int) := of_decide_eq_true (by first | (with_reducible assumption) | assumption)
                obtain ⟨i033, hi033, _, hsz33, _⟩ := info_parts info42
                have hroom33 : t181.length ≤ co34 := (Kd.R_reads' HO_5.out).2.1
                have hC33 : Kd.C k42 _ Ao34 t181.length t181 := (Kd.R_reads' HO_5.out).2.2
                have ql33 : ((ji18) : Int) ≤ ((wrap64 ((ji18) + (wrap64 (Int.tmod (IntKind.u64.wrap ((rd_T46 l1 x9_2).f1)) (IntKind.u64.wrap (wrap64 ((wrap64 (a0 - (ji18))) + 1))))))) : Int) := of_decide_eq_true (by first | (with_reducible assumption) | assumption)
                have q033 : (0 : Int) ≤ ((ji18) : Int) := of_decide_eq_true (by first | (with_reducible assumption) | assumption)
                have hcut33 := cut_mid (P := Try.prog) 27 42 .i64 .i64 Try.underlying27 hi033 6 hsz33 Ao34 t181.length co34 (ji18) (wrap64 ((ji18) + (wrap64 (Int.tmod (IntKind.u64.wrap ((rd_T46 l1 x9_2).f1)) (IntKind.u64.wrap (wrap64 ((wrap64 (a0 - (ji18))) + 1))))))) q033 ql33 q33 hroom33
                have hr33 := Kd.C_mid (lo := ((ji18) : Int).toNat) (hi := ((wrap64 ((ji18) + (wrap64 (Int.tmod (IntKind.u64.wrap ((rd_T46 l1 x9_2).f1)) (IntKind.u64.wrap (wrap64 ((wrap64 (a0 - (ji18))) + 1))))))) : Int).toNat) (c := co34) hC33 (by omega) (by omega) hroom33
                obtain ⟨A33, hA33⟩ : ∃ A1, A1 = (if co34 = ((ji18) : Int).toNat then Ao34 else (Ao34 : Option Addr).map (·.add (((ji18) : Int).toNat * 6))) := ⟨_, rfl⟩
                obtain ⟨c33, hc33⟩ : ∃ c1, c1 = co34 - ((ji18) : Int).toNat := ⟨_, rfl⟩
                have hy33 : y188.length = ((wrap64 ((ji18) + (wrap64 (Int.tmod (IntKind.u64.wrap ((rd_T46 l1 x9_2).f1)) (IntKind.u64.wrap (wrap64 ((wrap64 (a0 - (ji18))) + 1))))))) : Int).toNat - ((ji18) : Int).toNat := (by rw [Ny188.out, List.length_drop, List.length_take] <;> omega)
                rw [show ((t181).take ((wrap64 ((ji18) + (wrap64 (Int.tmod (IntKind.u64.wrap ((rd_T46 l1 x9_2).f1)) (IntKind.u64.wrap (wrap64 ((wrap64 (a0 - (ji18))) + 1))))))) : Int).toNat).drop ((ji18) : Int).toNat = y188 from Ny188.out.symm] at hr33
                replace hr33 : Kd.C k42 _ A33 y188.length y188 := (by rw [hA33]; exact hr33)
                rw [← hy33, ← hA33, ← hc33] at hcut33
                have HR191 := Aside0.mk hr33
                have HC191 := Aside0.mk (show y188.length ≤ c33 from by rw [hy33, hc33]; exact Nat.sub_le_sub_right (Nat.le_trans (by omega) hroom33) _)
                clear hr33 hC33 hroom33 hi033 hsz33 hc33
                have KY33 := Aside0.mk hy33
                have KA33 := Aside0.mk hA33
                clear hy33 hA33
                have KL33 := Aside0.mk (show ((wrap64 ((ji18) + (wrap64 (Int.tmod (IntKind.u64.wrap ((rd_T46 l1 x9_2).f1)) (IntKind.u64.wrap (wrap64 ((wrap64 (a0 - (ji18))) + 1))))))) : Int).toNat ≤ t181.length from by omega)
                have KM33 := Aside0.mk (show ((ji18) : Int).toNat ≤ ((wrap64 ((ji18) + (wrap64 (Int.tmod (IntKind.u64.wrap ((rd_T46 l1 x9_2).f1)) (IntKind.u64.wrap (wrap64 ((wrap64 (a0 - (ji18))) + 1))))))) : Int).toNat from by omega)
                replace q33 := eq_true q33
                go_wp2_with (first | (go_at_call 13; (with_reducible refine (collect_Collector_Take.calls k2 g185 x186000_2 _ _ y188 t192 t193 t194 w _ ?side1 ?side2 ?side3 ?side4 A22.out).mono ?_); (case side1 => repeat (first | (with_reducible first | exact HI185.out | apply IsS58.alloc | apply IsS58.drewN | apply IsS58.drew | apply IsS58.set_0) | exact HI185.out)); (case side2 => repeat (first | (with_reducible first | exact HB.out | apply below_alloc | apply pw_below_drewN | apply below_drew1 | refine below_set ?_ (IsS58.ge HI185.out)) | exact HB.out)); (case side3 => exact fun W_ hk_ => (by have q1_ := IsS58.apart (show IsS58 w _ g185 x186000_2 from by repeat (first | (with_reducible first | exact HI185.out | apply IsS58.alloc | apply IsS58.drewN | apply IsS58.drew | apply IsS58.set_0) | exact HI185.out)) (by (with_reducible repeat (first | apply Kd.R_alloc | apply Kd.R_drewN | apply Kd.R_drew)); exact HO_5.out) (by decide); have hC_ := Kd.C_foot_own (q1_) (fun _ h_ => h_.2) W_ hk_; have hR_ := ((Kd.R_reads' q1_).2.1); have q3_ := Kd.C_mid (lo := ((ji18) : Int).toNat) (hi := ((wrap64 ((ji18) + (wrap64 (Int.tmod (IntKind.u64.wrap ((rd_T46 l1 x9_2).f1)) (IntKind.u64.wrap (wrap64 ((wrap64 (a0 - (ji18))) + 1))))))) : Int).toNat) (c := co34) hC_ KM33.out KL33.out hR_; have q4_ : Kd.C k42 W_ A33 y188.length y188 := (by rw [Ny188.out, KA33.out]; exact q3_); exact q4_)); (case side4 => exact HC191.out); rintro e w35 ⟨rfl, hi, hb, hk⟩; have n0_ := Aside0.mk (Kd.R_mono (Kd.R_keep (IsS58.apart (show IsS58 w _ g185 x186000_2 from by repeat (first | (with_reducible first | exact HI185.out | apply IsS58.alloc | apply IsS58.drewN | apply IsS58.drew | apply IsS58.set_0) | exact HI185.out)) (by (with_reducible repeat (first | apply Kd.R_alloc | apply Kd.R_drewN | apply Kd.R_drew)); exact HO_5.out) (by decide)) hk (fun _ h => h.2)) (fun _ h => h.1)); have n1_ := Aside0.mk (hb); have n2_ := Aside0.mk (hi); clear HO_5; clear HB; clear HI185; have HO_5 := n0_; have HB := n1_; have HI185 := n2_; clear n0_ n1_ n2_; (try clear hb); (try clear hb2); (try clear hk); (try clear hi)))
                repeat (go_quiet (first | (go_at_call 13; (with_reducible refine (collect_Collector_Take.calls k2 g185 x186000_2 _ _ y188 t192 t193 t194 w _ ?side1 ?side2 ?side3 ?side4 A22.out).mono ?_); (case side1 => repeat (first | (with_reducible first | exact HI185.out | apply IsS58.alloc | apply IsS58.drewN | apply IsS58.drew | apply IsS58.set_0) | exact HI185.out)); (case side2 => repeat (first | (with_reducible first | exact HB.out | apply below_alloc | apply pw_below_drewN | apply below_drew1 | refine below_set ?_ (IsS58.ge HI185.out)) | exact HB.out)); (case side3 => exact fun W_ hk_ => (by have q1_ := IsS58.apart (show IsS58 w _ g185 x186000_2 from by repeat (first | (with_reducible first | exact HI185.out | apply IsS58.alloc | apply IsS58.drewN | apply IsS58.drew | apply IsS58.set_0) | exact HI185.out)) (by (with_reducible repeat (first | apply Kd.R_alloc | apply Kd.R_drewN | apply Kd.R_drew)); exact HO_5.out) (by decide); have hC_ := Kd.C_foot_own (q1_) (fun _ h_ => h_.2) W_ hk_; have hR_ := ((Kd.R_reads' q1_).2.1); have q3_ := Kd.C_mid (lo := ((ji18) : Int).toNat) (hi := ((wrap64 ((ji18) + (wrap64 (Int.tmod (IntKind.u64.wrap ((rd_T46 l1 x9_2).f1)) (IntKind.u64.wrap (wrap64 ((wrap64 (a0 - (ji18))) + 1))))))) : Int).toNat) (c := co34) hC_ KM33.out KL33.out hR_; have q4_ : Kd.C k42 W_ A33 y188.length y188 := (by rw [Ny188.out, KA33.out]; exact q3_); exact q4_)); (case side4 => exact HC191.out); rintro e w35 ⟨rfl, hi, hb, hk⟩; have n0_ := Aside0.mk (Kd.R_mono (Kd.R_keep (IsS58.apart (show IsS58 w _ g185 x186000_2 from by repeat (first | (with_reducible first | exact HI185.out | apply IsS58.alloc | apply IsS58.drewN | apply IsS58.drew | apply IsS58.set_0) | exact HI185.out)) (by (with_reducible repeat (first | apply Kd.R_alloc | apply Kd.R_drewN | apply Kd.R_drew)); exact HO_5.out) (by decide)) hk (fun _ h => h.2)) (fun _ h => h.1)); have n1_ := Aside0.mk (hb); have n2_ := Aside0.mk (hi); clear HO_5; clear HB; clear HI185; have HO_5 := n0_; have HB := n1_; have HI185 := n2_; clear n0_ n1_ n2_; (try clear hb); (try clear hb2); (try clear hk); (try clear hi))); try go_wp2_with (first | (go_at_call 13; (with_reducible refine (collect_Collector_Take.calls k2 g185 x186000_2 _ _ y188 t192 t193 t194 w _ ?side1 ?side2 ?side3 ?side4 A22.out).mono ?_); (case side1 => repeat (first | (with_reducible first | exact HI185.out | apply IsS58.alloc | apply IsS58.drewN | apply IsS58.drew | apply IsS58.set_0) | exact HI185.out)); (case side2 => repeat (first | (with_reducible first | exact HB.out | apply below_alloc | apply pw_below_drewN | apply below_drew1 | refine below_set ?_ (IsS58.ge HI185.out)) | exact HB.out)); (case side3 => exact fun W_ hk_ => (by have q1_ := IsS58.apart (show IsS58 w _ g185 x186000_2 from by repeat (first | (with_reducible first | exact HI185.out | apply IsS58.alloc | apply IsS58.drewN | apply IsS58.drew | apply IsS58.set_0) | exact HI185.out)) (by (with_reducible repeat (first | apply Kd.R_alloc | apply Kd.R_drewN | apply Kd.R_drew)); exact HO_5.out) (by decide); have hC_ := Kd.C_foot_own (q1_) (fun _ h_ => h_.2) W_ hk_; have hR_ := ((Kd.R_reads' q1_).2.1); have q3_ := Kd.C_mid (lo := ((ji18) : Int).toNat) (hi := ((wrap64 ((ji18) + (wrap64 (Int.tmod (IntKind.u64.wrap ((rd_T46 l1 x9_2).f1)) (IntKind.u64.wrap (wrap64 ((wrap64 (a0 - (ji18))) + 1))))))) : Int).toNat) (c := co34) hC_ KM33.out KL33.out hR_; have q4_ : Kd.C k42 W_ A33 y188.length y188 := (by rw [Ny188.out, KA33.out]; exact q3_); exact q4_)); (case side4 => exact HC191.out); rintro e w35 ⟨rfl, hi, hb, hk⟩; have n0_ := Aside0.mk (Kd.R_mono (Kd.R_keep (IsS58.apart (show IsS58 w _ g185 x186000_2 from by repeat (first | (with_reducible first | exact HI185.out | apply IsS58.alloc | apply IsS58.drewN | apply IsS58.drew | apply IsS58.set_0) | exact HI185.out)) (by (with_reducible repeat (first | apply Kd.R_alloc | apply Kd.R_drewN | apply Kd.R_drew)); exact HO_5.out) (by decide)) hk (fun _ h => h.2)) (fun _ h => h.1)); have n1_ := Aside0.mk (hb); have n2_ := Aside0.mk (hi); clear HO_5; clear HB; clear HI185; have HO_5 := n0_; have HB := n1_; have HI185 := n2_; clear n0_ n1_ n2_; (try clear hb); (try clear hb2); (try clear hk); (try clear hi))))
                go_roundg k2
                case measure => have := HJ4.out; have := HK2.out; omega
                case rel => exact ⟨(x7_2), (x8_2), (wrap64 (x9_2 + 1)), (t194), (by first | rfl | (simp; done) | (simp [*]; done)), (by first | rfl | (simp; done) | (simp [*]; done)), (by first | rfl | (simp; done) | (simp [*]; done)), H', ⟨by have := HJ4.out; have := HK2.out; omega⟩, ⟨by (with_reducible repeat (first | apply Kd.R_alloc | apply Kd.R_drewN | apply Kd.R_drew)); exact HO_5.out⟩, ⟨by repeat (first | (with_reducible first | exact HI185.out | apply IsS58.alloc | apply IsS58.drewN | apply IsS58.drew | apply IsS58.set_0) | exact HI185.out)⟩, ⟨by repeat (first | (with_reducible first | exact HB.out | apply below_alloc | apply pw_below_drewN | apply below_drew1 | refine below_set ?_ (IsS58.ge HI185.out)) | exact HB.out)⟩⟩
              ·rw [if_neg c23] at H
               have c23b0 : (t193 == 0) = false := beq_eq_false_iff_ne.mpr c23
               have c23b1 : (t193 != 0) = true := bne_iff_ne.mpr c23
               obtain rfl := Option.some.inj H
               have p186 : 0 ≤ (x9_2 : Int) := of_decide_eq_true (by first | (with_reducible assumption) | assumption)
               have q186 : x9_2 < (l1.length : Int) := of_decide_eq_true (by first | (with_reducible assumption) | assumption)
               obtain ⟨ad186, e186, hx186_0, hx186_1⟩ := at_T46 HR1.out x9_2 p186 q186
               cases e186
               replace hx186_0 := (HB.out.cell (World.block_lt_of_cell? w _ hx186_0)).trans hx186_0
               replace hx186_1 := (HB.out.cell (World.block_lt_of_cell? w _ hx186_1)).trans hx186_1
               replace p186 := eq_true p186
               replace q186 := eq_true q186
               have p187 : 0 ≤ (x9_2 : Int) := of_decide_eq_true (by first | (with_reducible assumption) | assumption)
               have q187 : x9_2 < (l1.length : Int) := of_decide_eq_true (by first | (with_reducible assumption) | assumption)
               obtain ⟨ad187, e187, hx187_0, hx187_1⟩ := at_T46 HR1.out x9_2 p187 q187
               obtain rfl : ad186 = ad187 := (by injection e187)
               replace hx187_0 := (HB.out.cell (World.block_lt_of_cell? w _ hx187_0)).trans hx187_0
               replace hx187_1 := (HB.out.cell (World.block_lt_of_cell? w _ hx187_1)).trans hx187_1
               replace p187 := eq_true p187
               replace q187 := eq_true q187
               obtain ⟨Ao37, co37, eo37⟩ := Kd.R_slice HO_5.out
               subst eo37
               have q36 : ((wrap64 ((ji18) + (wrap64 (Int.tmod (IntKind.u64.wrap ((rd_T46 l1 x9_2).f1)) (IntKind.u64.wrap (wrap64 ((wrap64 (a0 - (ji18))) + 1))))))) : Int) ≤ ((t181.length : Int) : Int) := of_decide_eq_true (by first | (with_reducible assumption) | assumption)
               obtain ⟨i036, hi036, _, hsz36, _⟩ := info_parts info42
               have hroom36 : t181.length ≤ co37 := (Kd.R_reads' HO_5.out).2.1
               have hC36 : Kd.C k42 _ Ao37 t181.length t181 := (Kd.R_reads' HO_5.out).2.2
               have ql36 : ((ji18) : Int) ≤ ((wrap64 ((ji18) + (wrap64 (Int.tmod (IntKind.u64.wrap ((rd_T46 l1 x9_2).f1)) (IntKind.u64.wrap (wrap64 ((wrap64 (a0 - (ji18))) + 1))))))) : Int) := of_decide_eq_true (by first | (with_reducible assumption) | assumption)
               have q036 : (0 : Int) ≤ ((ji18) : Int) := of_decide_eq_true (by first | (with_reducible assumption) | assumption)
               have hcut36 := cut_mid (P := Try.prog) 27 42 .i64 .i64 Try.underlying27 hi036 6 hsz36 Ao37 t181.length co37 (ji18) (wrap64 ((ji18) + (wrap64 (Int.tmod (IntKind.u64.wrap ((rd_T46 l1 x9_2).f1)) (IntKind.u64.wrap (wrap64 ((wrap64 (a0 - (ji18))) + 1))))))) q036 ql36 q36 hroom36
               have hr36 := Kd.C_mid (lo := ((ji18) : Int).toNat) (hi := ((wrap64 ((ji18) + (wrap64 (Int.tmod (IntKind.u64.wrap ((rd_T46 l1 x9_2).f1)) (IntKind.u64.wrap (wrap64 ((wrap64 (a0 - (ji18))) + 1))))))) : Int).toNat) (c := co37) hC36 (by omega) (by omega) hroom36
               obtain ⟨A36, hA36⟩ : ∃ A1, A1 = (if co37 = ((ji18) : Int).toNat then Ao37 else (Ao37 : Option Addr).map (·.add (((ji18) : Int).toNat * 6))) := ⟨_, rfl⟩
               obtain ⟨c36, hc36⟩ : ∃ c1, c1 = co37 - ((ji18) : Int).toNat := ⟨_, rfl⟩
               have hy36 : y188.length = ((wrap64 ((ji18) + (wrap64 (Int.tmod (IntKind.u64.wrap ((rd_T46 l1 x9_2).f1)) (IntKind.u64.wrap (wrap64 ((wrap64 (a0 - (ji18))) + 1))))))) : Int).toNat - ((ji18) : Int).toNat := (by rw [Ny188.out, List.length_drop, List.length_take] <;> omega)
               rw [show ((t181).take ((wrap64 ((ji18) + (wrap64 (Int.tmod (IntKind.u64.wrap ((rd_T46 l1 x9_2).f1)) (IntKind.u64.wrap (wrap64 ((wrap64 (a0 - (ji18))) + 1))))))) : Int).toNat).drop ((ji18) : Int).toNat = y188 from Ny188.out.symm] at hr36
               replace hr36 : Kd.C k42 _ A36 y188.length y188 := (by rw [hA36]; exact hr36)
               rw [← hy36, ← hA36, ← hc36] at hcut36
               have HR191 := Aside0.mk hr36
               have HC191 := Aside0.mk (show y188.length ≤ c36 from by rw [hy36, hc36]; exact Nat.sub_le_sub_right (Nat.le_trans (by omega) hroom36) _)
               clear hr36 hC36 hroom36 hi036 hsz36 hc36
               have KY36 := Aside0.mk hy36
               have KA36 := Aside0.mk hA36
               clear hy36 hA36
               have KL36 := Aside0.mk (show ((wrap64 ((ji18) + (wrap64 (Int.tmod (IntKind.u64.wrap ((rd_T46 l1 x9_2).f1)) (IntKind.u64.wrap (wrap64 ((wrap64 (a0 - (ji18))) + 1))))))) : Int).toNat ≤ t181.length from by omega)
               have KM36 := Aside0.mk (show ((ji18) : Int).toNat ≤ ((wrap64 ((ji18) + (wrap64 (Int.tmod (IntKind.u64.wrap ((rd_T46 l1 x9_2).f1)) (IntKind.u64.wrap (wrap64 ((wrap64 (a0 - (ji18))) + 1))))))) : Int).toNat from by omega)
               replace q36 := eq_true q36
               go_wp2_with (first | (go_at_call 13; (with_reducible refine (collect_Collector_Take.calls k2 g185 x186000_2 _ _ y188 t192 t193 t194 w _ ?side1 ?side2 ?side3 ?side4 A22.out).mono ?_); (case side1 => repeat (first | (with_reducible first | exact HI185.out | apply IsS58.alloc | apply IsS58.drewN | apply IsS58.drew | apply IsS58.set_0) | exact HI185.out)); (case side2 => repeat (first | (with_reducible first | exact HB.out | apply below_alloc | apply pw_below_drewN | apply below_drew1 | refine below_set ?_ (IsS58.ge HI185.out)) | exact HB.out)); (case side3 => exact fun W_ hk_ => (by have q1_ := IsS58.apart (show IsS58 w _ g185 x186000_2 from by repeat (first | (with_reducible first | exact HI185.out | apply IsS58.alloc | apply IsS58.drewN | apply IsS58.drew | apply IsS58.set_0) | exact HI185.out)) (by (with_reducible repeat (first | apply Kd.R_alloc | apply Kd.R_drewN | apply Kd.R_drew)); exact HO_5.out) (by decide); have hC_ := Kd.C_foot_own (q1_) (fun _ h_ => h_.2) W_ hk_; have hR_ := ((Kd.R_reads' q1_).2.1); have q3_ := Kd.C_mid (lo := ((ji18) : Int).toNat) (hi := ((wrap64 ((ji18) + (wrap64 (Int.tmod (IntKind.u64.wrap ((rd_T46 l1 x9_2).f1)) (IntKind.u64.wrap (wrap64 ((wrap64 (a0 - (ji18))) + 1))))))) : Int).toNat) (c := co37) hC_ KM36.out KL36.out hR_; have q4_ : Kd.C k42 W_ A36 y188.length y188 := (by rw [Ny188.out, KA36.out]; exact q3_); exact q4_)); (case side4 => exact HC191.out); rintro e w38 ⟨rfl, hi, hb, hk⟩; have n0_ := Aside0.mk (Kd.R_mono (Kd.R_keep (IsS58.apart (show IsS58 w _ g185 x186000_2 from by repeat (first | (with_reducible first | exact HI185.out | apply IsS58.alloc | apply IsS58.drewN | apply IsS58.drew | apply IsS58.set_0) | exact HI185.out)) (by (with_reducible repeat (first | apply Kd.R_alloc | apply Kd.R_drewN | apply Kd.R_drew)); exact HO_5.out) (by decide)) hk (fun _ h => h.2)) (fun _ h => h.1)); have n1_ := Aside0.mk (hb); have n2_ := Aside0.mk (hi); clear HO_5; clear HB; clear HI185; have HO_5 := n0_; have HB := n1_; have HI185 := n2_; clear n0_ n1_ n2_; (try clear hb); (try clear hb2); (try clear hk); (try clear hi)))
               repeat (go_quiet (first | (go_at_call 13; (with_reducible refine (collect_Collector_Take.calls k2 g185 x186000_2 _ _ y188 t192 t193 t194 w _ ?side1 ?side2 ?side3 ?side4 A22.out).mono ?_); (case side1 => repeat (first | (with_reducible first | exact HI185.out | apply IsS58.alloc | apply IsS58.drewN | apply IsS58.drew | apply IsS58.set_0) | exact HI185.out)); (case side2 => repeat (first | (with_reducible first | exact HB.out | apply below_alloc | apply pw_below_drewN | apply below_drew1 | refine below_set ?_ (IsS58.ge HI185.out)) | exact HB.out)); (case side3 => exact fun W_ hk_ => (by have q1_ := IsS58.apart (show IsS58 w _ g185 x186000_2 from by repeat (first | (with_reducible first | exact HI185.out | apply IsS58.alloc | apply IsS58.drewN | apply IsS58.drew | apply IsS58.set_0) | exact HI185.out)) (by (with_reducible repeat (first | apply Kd.R_alloc | apply Kd.R_drewN | apply Kd.R_drew)); exact HO_5.out) (by decide); have hC_ := Kd.C_foot_own (q1_) (fun _ h_ => h_.2) W_ hk_; have hR_ := ((Kd.R_reads' q1_).2.1); have q3_ := Kd.C_mid (lo := ((ji18) : Int).toNat) (hi := ((wrap64 ((ji18) + (wrap64 (Int.tmod (IntKind.u64.wrap ((rd_T46 l1 x9_2).f1)) (IntKind.u64.wrap (wrap64 ((wrap64 (a0 - (ji18))) + 1))))))) : Int).toNat) (c := co37) hC_ KM36.out KL36.out hR_; have q4_ : Kd.C k42 W_ A36 y188.length y188 := (by rw [Ny188.out, KA36.out]; exact q3_); exact q4_)); (case side4 => exact HC191.out); rintro e w38 ⟨rfl, hi, hb, hk⟩; have n0_ := Aside0.mk (Kd.R_mono (Kd.R_keep (IsS58.apart (show IsS58 w _ g185 x186000_2 from by repeat (first | (with_reducible first | exact HI185.out | apply IsS58.alloc | apply IsS58.drewN | apply IsS58.drew | apply IsS58.set_0) | exact HI185.out)) (by (with_reducible repeat (first | apply Kd.R_alloc | apply Kd.R_drewN | apply Kd.R_drew)); exact HO_5.out) (by decide)) hk (fun _ h => h.2)) (fun _ h => h.1)); have n1_ := Aside0.mk (hb); have n2_ := Aside0.mk (hi); clear HO_5; clear HB; clear HI185; have HO_5 := n0_; have HB := n1_; have HI185 := n2_; clear n0_ n1_ n2_; (try clear hb); (try clear hb2); (try clear hk); (try clear hi))); try go_wp2_with (first | (go_at_call 13; (with_reducible refine (collect_Collector_Take.calls k2 g185 x186000_2 _ _ y188 t192 t193 t194 w _ ?side1 ?side2 ?side3 ?side4 A22.out).mono ?_); (case side1 => repeat (first | (with_reducible first | exact HI185.out | apply IsS58.alloc | apply IsS58.drewN | apply IsS58.drew | apply IsS58.set_0) | exact HI185.out)); (case side2 => repeat (first | (with_reducible first | exact HB.out | apply below_alloc | apply pw_below_drewN | apply below_drew1 | refine below_set ?_ (IsS58.ge HI185.out)) | exact HB.out)); (case side3 => exact fun W_ hk_ => (by have q1_ := IsS58.apart (show IsS58 w _ g185 x186000_2 from by repeat (first | (with_reducible first | exact HI185.out | apply IsS58.alloc | apply IsS58.drewN | apply IsS58.drew | apply IsS58.set_0) | exact HI185.out)) (by (with_reducible repeat (first | apply Kd.R_alloc | apply Kd.R_drewN | apply Kd.R_drew)); exact HO_5.out) (by decide); have hC_ := Kd.C_foot_own (q1_) (fun _ h_ => h_.2) W_ hk_; have hR_ := ((Kd.R_reads' q1_).2.1); have q3_ := Kd.C_mid (lo := ((ji18) : Int).toNat) (hi := ((wrap64 ((ji18) + (wrap64 (Int.tmod (IntKind.u64.wrap ((rd_T46 l1 x9_2).f1)) (IntKind.u64.wrap (wrap64 ((wrap64 (a0 - (ji18))) + 1))))))) : Int).toNat) (c := co37) hC_ KM36.out KL36.out hR_; have q4_ : Kd.C k42 W_ A36 y188.length y188 := (by rw [Ny188.out, KA36.out]; exact q3_); exact q4_)); (case side4 => exact HC191.out); rintro e w38 ⟨rfl, hi, hb, hk⟩; have n0_ := Aside0.mk (Kd.R_mono (Kd.R_keep (IsS58.apart (show IsS58 w _ g185 x186000_2 from by repeat (first | (with_reducible first | exact HI185.out | apply IsS58.alloc | apply IsS58.drewN | apply IsS58.drew | apply IsS58.set_0) | exact HI185.out)) (by (with_reducible repeat (first | apply Kd.R_alloc | apply Kd.R_drewN | apply Kd.R_drew)); exact HO_5.out) (by decide)) hk (fun _ h => h.2)) (fun _ h => h.1)); have n1_ := Aside0.mk (hb); have n2_ := Aside0.mk (hi); clear HO_5; clear HB; clear HI185; have HO_5 := n0_; have HB := n1_; have HI185 := n2_; clear n0_ n1_ n2_; (try clear hb); (try clear hb2); (try clear hk); (try clear hi))))
               go_ret
               exact ⟨by first | rfl | (simp [errW_none, errW_some] <;> rfl) | (simp only [← hji18]; first | rfl | (simp [errW_none, errW_some] <;> rfl)) | (simp [*, errW_none, errW_some] <;> rfl), by repeat (first | (with_reducible first | exact HB.out | apply below_alloc | apply pw_below_drewN | apply below_drew1 | refine below_set ?_ (IsS58.ge HI185.out)) | exact HB.out)⟩
             ·rw [if_neg c21] at H
              exact absurd H (by simp)
            ·rw [if_neg c20] at H
             exact absurd H (by simp)
           ·rw [if_neg c19] at H
            exact absurd H (by simp)
        ·rw [if_neg c15] at H
         exact absurd H (by simp)
       ·rw [if_neg c14] at H
        have c14b0 : decide (x9_2 < (l1.length : Int)) = false := decide_eq_false c14
        clear c14
        have HC39 := Aside0.mk H
        clear H
        go_upto_region 20 with (fail)
        repeat (go_quiet (fail); go_upto_region 20 with (fail))
        go_cut [100] (fun v100 wc => ∃ (kq : Nat) (x100_38 : Bool) (x186000_38 : List (S42)), v100 = .bool x100_38 ∧ Aside0 (plenumlaw42_CollectComplete.j2 kq a0 t181 x7_2 x8_2 x100_38 x186000_38 = some r) ∧ Aside0 (kq ≤ k2) ∧ Aside0 (Kd.R k42 42 wc w.heap.size (fun _ => True) v182 t181) ∧ Aside0 (IsS58 w wc g185 x186000_38) ∧ Aside0 (Below w.heap.size w wc))
        case first =>
         have H := HC39.out
         clear HC39
         replace H := Option.bind_eq_some_iff.mp H
         obtain ⟨⟨t195, t196⟩, A400, H⟩ := H
         replace H : (if t195 = (wrap64 (x7_2 + 1)) then ((collect_Collector_Lost.f k2 t196).bind fun bt197 => (plenumlaw42_CollectComplete.j2 k2 a0 t181 x7_2 x8_2 (bt197.1 != x8_2) bt197.2)) else (plenumlaw42_CollectComplete.j2 k2 a0 t181 x7_2 x8_2 true t196)) = some r := H
         have A40 := Aside0.mk A400
         clear A400
         by_cases c41 : t195 = (wrap64 (x7_2 + 1))
         ·rw [if_pos c41] at H
          have c41b0 : (t195 == (wrap64 (x7_2 + 1))) = true := beq_iff_eq.mpr c41
          have c41b1 : (t195 != (wrap64 (x7_2 + 1))) = false := bne_eq_false_iff_eq.mpr c41
          clear c41
          (first | rw [c41b0] | (simp only [i64_w, i32_w]; rw [c41b0]) | skip)
          replace H := Option.bind_eq_some_iff.mp H
          obtain ⟨⟨t197, t198⟩, A420, H⟩ := H
          replace H : (plenumlaw42_CollectComplete.j2 k2 a0 t181 x7_2 x8_2 (t197 != x8_2) t198) = some r := H
          have A42 := Aside0.mk A420
          clear A420
          have H' := Aside0.mk H
          clear H
          go_wp2_with (first | (go_at_call 15; (with_reducible refine (collect_Collector_From.calls g185 x186000_2 t195 t196 w _ ?side1 ?side2 A40.out).mono ?_); (case side1 => repeat (first | (with_reducible first | exact HI185.out | apply IsS58.alloc | apply IsS58.drewN | apply IsS58.drew | apply IsS58.set_0) | exact HI185.out)); (case side2 => repeat (first | (with_reducible first | exact HB.out | apply below_alloc | apply pw_below_drewN | apply below_drew1 | refine below_set ?_ (IsS58.ge HI185.out)) | exact HB.out)); rintro e w43 ⟨rfl, hi, hb, hk⟩; have n0_ := Aside0.mk (Kd.R_mono (Kd.R_keep (IsS58.apart (show IsS58 w _ g185 x186000_2 from by repeat (first | (with_reducible first | exact HI185.out | apply IsS58.alloc | apply IsS58.drewN | apply IsS58.drew | apply IsS58.set_0) | exact HI185.out)) (by (with_reducible repeat (first | apply Kd.R_alloc | apply Kd.R_drewN | apply Kd.R_drew)); exact HO_5.out) (by decide)) hk (fun _ h => h.2)) (fun _ h => h.1)); have n1_ := Aside0.mk (hb); have n2_ := Aside0.mk (hi); clear HO_5; clear HB; clear HI185; have HO_5 := n0_; have HB := n1_; have HI185 := n2_; clear n0_ n1_ n2_; (try clear hb); (try clear hb2); (try clear hk); (try clear hi)) | (go_at_call 17; (with_reducible refine (collect_Collector_Lost.calls k2 g185 t196 t197 t198 w _ ?side1 ?side2 A42.out).mono ?_); (case side1 => repeat (first | (with_reducible first | exact HI185.out | apply IsS58.alloc | apply IsS58.drewN | apply IsS58.drew | apply IsS58.set_0) | exact HI185.out)); (case side2 => repeat (first | (with_reducible first | exact HB.out | apply below_alloc | apply pw_below_drewN | apply below_drew1 | refine below_set ?_ (IsS58.ge HI185.out)) | exact HB.out)); rintro e w44 ⟨rfl, hi, hb, hk⟩; have n0_ := Aside0.mk (Kd.R_mono (Kd.R_keep (IsS58.apart (show IsS58 w _ g185 t196 from by repeat (first | (with_reducible first | exact HI185.out | apply IsS58.alloc | apply IsS58.drewN | apply IsS58.drew | apply IsS58.set_0) | exact HI185.out)) (by (with_reducible repeat (first | apply Kd.R_alloc | apply Kd.R_drewN | apply Kd.R_drew)); exact HO_5.out) (by decide)) hk (fun _ h => h.2)) (fun _ h => h.1)); have n1_ := Aside0.mk (hb); have n2_ := Aside0.mk (hi); clear HO_5; clear HB; clear HI185; have HO_5 := n0_; have HB := n1_; have HI185 := n2_; clear n0_ n1_ n2_; (try clear hb); (try clear hb2); (try clear hk); (try clear hi)))
          repeat (go_quiet (first | (go_at_call 15; (with_reducible refine (collect_Collector_From.calls g185 x186000_2 t195 t196 w _ ?side1 ?side2 A40.out).mono ?_); (case side1 => repeat (first | (with_reducible first | exact HI185.out | apply IsS58.alloc | apply IsS58.drewN | apply IsS58.drew | apply IsS58.set_0) | exact HI185.out)); (case side2 => repeat (first | (with_reducible first | exact HB.out | apply below_alloc | apply pw_below_drewN | apply below_drew1 | refine below_set ?_ (IsS58.ge HI185.out)) | exact HB.out)); rintro e w43 ⟨rfl, hi, hb, hk⟩; have n0_ := Aside0.mk (Kd.R_mono (Kd.R_keep (IsS58.apart (show IsS58 w _ g185 x186000_2 from by repeat (first | (with_reducible first | exact HI185.out | apply IsS58.alloc | apply IsS58.drewN | apply IsS58.drew | apply IsS58.set_0) | exact HI185.out)) (by (with_reducible repeat (first | apply Kd.R_alloc | apply Kd.R_drewN | apply Kd.R_drew)); exact HO_5.out) (by decide)) hk (fun _ h => h.2)) (fun _ h => h.1)); have n1_ := Aside0.mk (hb); have n2_ := Aside0.mk (hi); clear HO_5; clear HB; clear HI185; have HO_5 := n0_; have HB := n1_; have HI185 := n2_; clear n0_ n1_ n2_; (try clear hb); (try clear hb2); (try clear hk); (try clear hi)) | (go_at_call 17; (with_reducible refine (collect_Collector_Lost.calls k2 g185 t196 t197 t198 w _ ?side1 ?side2 A42.out).mono ?_); (case side1 => repeat (first | (with_reducible first | exact HI185.out | apply IsS58.alloc | apply IsS58.drewN | apply IsS58.drew | apply IsS58.set_0) | exact HI185.out)); (case side2 => repeat (first | (with_reducible first | exact HB.out | apply below_alloc | apply pw_below_drewN | apply below_drew1 | refine below_set ?_ (IsS58.ge HI185.out)) | exact HB.out)); rintro e w44 ⟨rfl, hi, hb, hk⟩; have n0_ := Aside0.mk (Kd.R_mono (Kd.R_keep (IsS58.apart (show IsS58 w _ g185 t196 from by repeat (first | (with_reducible first | exact HI185.out | apply IsS58.alloc | apply IsS58.drewN | apply IsS58.drew | apply IsS58.set_0) | exact HI185.out)) (by (with_reducible repeat (first | apply Kd.R_alloc | apply Kd.R_drewN | apply Kd.R_drew)); exact HO_5.out) (by decide)) hk (fun _ h => h.2)) (fun _ h => h.1)); have n1_ := Aside0.mk (hb); have n2_ := Aside0.mk (hi); clear HO_5; clear HB; clear HI185; have HO_5 := n0_; have HB := n1_; have HI185 := n2_; clear n0_ n1_ n2_; (try clear hb); (try clear hb2); (try clear hk); (try clear hi))); try go_wp2_with (first | (go_at_call 15; (with_reducible refine (collect_Collector_From.calls g185 x186000_2 t195 t196 w _ ?side1 ?side2 A40.out).mono ?_); (case side1 => repeat (first | (with_reducible first | exact HI185.out | apply IsS58.alloc | apply IsS58.drewN | apply IsS58.drew | apply IsS58.set_0) | exact HI185.out)); (case side2 => repeat (first | (with_reducible first | exact HB.out | apply below_alloc | apply pw_below_drewN | apply below_drew1 | refine below_set ?_ (IsS58.ge HI185.out)) | exact HB.out)); rintro e w43 ⟨rfl, hi, hb, hk⟩; have n0_ := Aside0.mk (Kd.R_mono (Kd.R_keep (IsS58.apart (show IsS58 w _ g185 x186000_2 from by repeat (first | (with_reducible first | exact HI185.out | apply IsS58.alloc | apply IsS58.drewN | apply IsS58.drew | apply IsS58.set_0) | exact HI185.out)) (by (with_reducible repeat (first | apply Kd.R_alloc | apply Kd.R_drewN | apply Kd.R_drew)); exact HO_5.out) (by decide)) hk (fun _ h => h.2)) (fun _ h => h.1)); have n1_ := Aside0.mk (hb); have n2_ := Aside0.mk (hi); clear HO_5; clear HB; clear HI185; have HO_5 := n0_; have HB := n1_; have HI185 := n2_; clear n0_ n1_ n2_; (try clear hb); (try clear hb2); (try clear hk); (try clear hi)) | (go_at_call 17; (with_reducible refine (collect_Collector_Lost.calls k2 g185 t196 t197 t198 w _ ?side1 ?side2 A42.out).mono ?_); (case side1 => repeat (first | (with_reducible first | exact HI185.out | apply IsS58.alloc | apply IsS58.drewN | apply IsS58.drew | apply IsS58.set_0) | exact HI185.out)); (case side2 => repeat (first | (with_reducible first | exact HB.out | apply below_alloc | apply pw_below_drewN | apply below_drew1 | refine below_set ?_ (IsS58.ge HI185.out)) | exact HB.out)); rintro e w44 ⟨rfl, hi, hb, hk⟩; have n0_ := Aside0.mk (Kd.R_mono (Kd.R_keep (IsS58.apart (show IsS58 w _ g185 t196 from by repeat (first | (with_reducible first | exact HI185.out | apply IsS58.alloc | apply IsS58.drewN | apply IsS58.drew | apply IsS58.set_0) | exact HI185.out)) (by (with_reducible repeat (first | apply Kd.R_alloc | apply Kd.R_drewN | apply Kd.R_drew)); exact HO_5.out) (by decide)) hk (fun _ h => h.2)) (fun _ h => h.1)); have n1_ := Aside0.mk (hb); have n2_ := Aside0.mk (hi); clear HO_5; clear HB; clear HI185; have HO_5 := n0_; have HB := n1_; have HI185 := n2_; clear n0_ n1_ n2_; (try clear hb); (try clear hb2); (try clear hk); (try clear hi))))
          go_meet
          case rel => exact ⟨_, ((t197 != x8_2)), (t198), (by first | rfl | (simp; done) | (simp [*]; done)), H', ⟨by have := HJ4.out; have := HK2.out; first | omega | exact Nat.le_refl _⟩, ⟨by (with_reducible repeat (first | apply Kd.R_alloc | apply Kd.R_drewN | apply Kd.R_drew)); exact HO_5.out⟩, ⟨by repeat (first | (with_reducible first | exact HI185.out | apply IsS58.alloc | apply IsS58.drewN | apply IsS58.drew | apply IsS58.set_0) | exact HI185.out)⟩, ⟨by repeat (first | (with_reducible first | exact HB.out | apply below_alloc | apply pw_below_drewN | apply below_drew1 | refine below_set ?_ (IsS58.ge HI185.out)) | exact HB.out)⟩⟩
         ·rw [if_neg c41] at H
          have c41b0 : (t195 == (wrap64 (x7_2 + 1))) = false := beq_eq_false_iff_ne.mpr c41
          have c41b1 : (t195 != (wrap64 (x7_2 + 1))) = true := bne_iff_ne.mpr c41
          (first | rw [c41b0] | (simp only [i64_w, i32_w]; rw [c41b0]) | skip)
          have H' := Aside0.mk H
          clear H
          go_wp2_with (first | (go_at_call 15; (with_reducible refine (collect_Collector_From.calls g185 x186000_2 t195 t196 w _ ?side1 ?side2 A40.out).mono ?_); (case side1 => repeat (first | (with_reducible first | exact HI185.out | apply IsS58.alloc | apply IsS58.drewN | apply IsS58.drew | apply IsS58.set_0) | exact HI185.out)); (case side2 => repeat (first | (with_reducible first | exact HB.out | apply below_alloc | apply pw_below_drewN | apply below_drew1 | refine below_set ?_ (IsS58.ge HI185.out)) | exact HB.out)); rintro e w45 ⟨rfl, hi, hb, hk⟩; have n0_ := Aside0.mk (Kd.R_mono (Kd.R_keep (IsS58.apart (show IsS58 w _ g185 x186000_2 from by repeat (first | (with_reducible first | exact HI185.out | apply IsS58.alloc | apply IsS58.drewN | apply IsS58.drew | apply IsS58.set_0) | exact HI185.out)) (by (with_reducible repeat (first | apply Kd.R_alloc | apply Kd.R_drewN | apply Kd.R_drew)); exact HO_5.out) (by decide)) hk (fun _ h => h.2)) (fun _ h => h.1)); have n1_ := Aside0.mk (hb); have n2_ := Aside0.mk (hi); clear HO_5; clear HB; clear HI185; have HO_5 := n0_; have HB := n1_; have HI185 := n2_; clear n0_ n1_ n2_; (try clear hb); (try clear hb2); (try clear hk); (try clear hi)))
          repeat (go_quiet (first | (go_at_call 15; (with_reducible refine (collect_Collector_From.calls g185 x186000_2 t195 t196 w _ ?side1 ?side2 A40.out).mono ?_); (case side1 => repeat (first | (with_reducible first | exact HI185.out | apply IsS58.alloc | apply IsS58.drewN | apply IsS58.drew | apply IsS58.set_0) | exact HI185.out)); (case side2 => repeat (first | (with_reducible first | exact HB.out | apply below_alloc | apply pw_below_drewN | apply below_drew1 | refine below_set ?_ (IsS58.ge HI185.out)) | exact HB.out)); rintro e w45 ⟨rfl, hi, hb, hk⟩; have n0_ := Aside0.mk (Kd.R_mono (Kd.R_keep (IsS58.apart (show IsS58 w _ g185 x186000_2 from by repeat (first | (with_reducible first | exact HI185.out | apply IsS58.alloc | apply IsS58.drewN | apply IsS58.drew | apply IsS58.set_0) | exact HI185.out)) (by (with_reducible repeat (first | apply Kd.R_alloc | apply Kd.R_drewN | apply Kd.R_drew)); exact HO_5.out) (by decide)) hk (fun _ h => h.2)) (fun _ h => h.1)); have n1_ := Aside0.mk (hb); have n2_ := Aside0.mk (hi); clear HO_5; clear HB; clear HI185; have HO_5 := n0_; have HB := n1_; have HI185 := n2_; clear n0_ n1_ n2_; (try clear hb); (try clear hb2); (try clear hk); (try clear hi))); try go_wp2_with (first | (go_at_call 15; (with_reducible refine (collect_Collector_From.calls g185 x186000_2 t195 t196 w _ ?side1 ?side2 A40.out).mono ?_); (case side1 => repeat (first | (with_reducible first | exact HI185.out | apply IsS58.alloc | apply IsS58.drewN | apply IsS58.drew | apply IsS58.set_0) | exact HI185.out)); (case side2 => repeat (first | (with_reducible first | exact HB.out | apply below_alloc | apply pw_below_drewN | apply below_drew1 | refine below_set ?_ (IsS58.ge HI185.out)) | exact HB.out)); rintro e w45 ⟨rfl, hi, hb, hk⟩; have n0_ := Aside0.mk (Kd.R_mono (Kd.R_keep (IsS58.apart (show IsS58 w _ g185 x186000_2 from by repeat (first | (with_reducible first | exact HI185.out | apply IsS58.alloc | apply IsS58.drewN | apply IsS58.drew | apply IsS58.set_0) | exact HI185.out)) (by (with_reducible repeat (first | apply Kd.R_alloc | apply Kd.R_drewN | apply Kd.R_drew)); exact HO_5.out) (by decide)) hk (fun _ h => h.2)) (fun _ h => h.1)); have n1_ := Aside0.mk (hb); have n2_ := Aside0.mk (hi); clear HO_5; clear HB; clear HI185; have HO_5 := n0_; have HB := n1_; have HI185 := n2_; clear n0_ n1_ n2_; (try clear hb); (try clear hb2); (try clear hk); (try clear hi))))
          go_meet
          case rel => exact ⟨_, (true), (t196), (by first | rfl | (simp; done) | (simp [*]; done)), H', ⟨by have := HJ4.out; have := HK2.out; first | omega | exact Nat.le_refl _⟩, ⟨by (with_reducible repeat (first | apply Kd.R_alloc | apply Kd.R_drewN | apply Kd.R_drew)); exact HO_5.out⟩, ⟨by repeat (first | (with_reducible first | exact HI185.out | apply IsS58.alloc | apply IsS58.drewN | apply IsS58.drew | apply IsS58.set_0) | exact HI185.out)⟩, ⟨by repeat (first | (with_reducible first | exact HB.out | apply below_alloc | apply pw_below_drewN | apply below_drew1 | refine below_set ?_ (IsS58.ge HI185.out)) | exact HB.out)⟩⟩
        case rest =>
         clear HC39
         try clear c1
         try clear p1
         try clear q1
         try clear hx1
         try clear c2
         try clear p2
         try clear q2
         try clear c3
         try clear q3
         try clear c4
         try clear q4
         try clear c5
         try clear p6
         try clear c7
         try clear c7b0
         try clear c8
         try clear c8b0
         try clear c9
         try clear c14
         try clear c14b0
         try clear c15
         try clear c15b0
         try clear c16
         try clear c16b0
         try clear c16b1
         try clear c17
         try clear c17b0
         try clear c17b1
         try clear p18
         try clear q18
         try clear hx18
         try clear c19
         try clear c19b0
         try clear c19b1
         try clear c20
         try clear c20b0
         try clear c20b1
         try clear c21
         try clear c21b0
         try clear c21b1
         try clear c23
         try clear c23b0
         try clear c23b1
         try clear c24
         try clear c24b0
         try clear c25
         try clear c25b0
         try clear c27
         try clear q27
         try clear c30
         try clear q30
         try clear c33
         try clear q33
         try clear c36
         try clear q36
         try clear c41
         try clear c41b0
         try clear c41b1
         try clear hx186_0
         try clear hx186_1
         try clear hx187_0
         try clear hx187_1
         try clear p186
         try clear p187
         try clear p2
         try clear q027
         try clear q030
         try clear q033
         try clear q036
         try clear q186
         try clear q187
         try clear q27
         try clear q30
         try clear q33
         try clear q36
         obtain ⟨kq, x100_38, x186000_38, rfl, HA, HJ38, HO_5, HI185, HB⟩ := hcut
         cases kq with
         | zero => exact absurd HA.out (by simp [plenumlaw42_CollectComplete.j2])
         | succ kj38 =>
          have H := HA.out
          clear HA
          simp only [plenumlaw42_CollectComplete.j2] at H
          by_cases c46 : x100_38 = true
          ·subst c46
           have H1 : (some false) = some r := by rw [if_pos rfl] at H; exact H
           clear H
           have H := H1
           clear H1
           obtain rfl := Option.some.inj H
           go_wp2
           repeat (go_quiet (fail); try go_wp2)
           go_ret
           exact ⟨by first | rfl | (simp [errW_none, errW_some] <;> rfl) | (simp [*, errW_none, errW_some] <;> rfl), by repeat (first | (with_reducible first | exact HB.out | apply below_alloc | apply pw_below_drewN | apply below_drew1 | refine below_set ?_ (IsS58.ge HI185.out)) | exact HB.out)⟩
          ·replace c46 := Bool.eq_false_iff.mpr c46
           subst c46
           have H1 : ((collect_Collector_Records.f x186000_38).bind fun bt199 => (if x8_2 = 0 then (if 0 ≤ x7_2 then (if x7_2 ≤ (t181.length : Int) then ((plenumref42_Same.f kj38 bt199.1 (t181.take (x7_2 : Int).toNat)).bind fun t207 => (plenumlaw42_CollectComplete.j3 kj38 a0 t181 bt199.1 (!t207))) else (none)) else (none)) else (plenumlaw42_CollectComplete.j3 kj38 a0 t181 bt199.1 false))) = some r := by rw [if_neg (show ¬ (false = true) by decide)] at H; exact H
           clear H
           have H := H1
           clear H1
           replace H := Option.bind_eq_some_iff.mp H
           obtain ⟨⟨t199, t202⟩, A470, H⟩ := H
           replace H : (if x8_2 = 0 then (if 0 ≤ x7_2 then (if x7_2 ≤ (t181.length : Int) then ((plenumref42_Same.f kj38 t199 (t181.take (x7_2 : Int).toNat)).bind fun t207 => (plenumlaw42_CollectComplete.j3 kj38 a0 t181 t199 (!t207))) else (none)) else (none)) else (plenumlaw42_CollectComplete.j3 kj38 a0 t181 t199 false)) = some r := H
           have A47 := Aside0.mk A470
           clear A470
           have HC48 := Aside0.mk H
           clear H
           go_upto_region 23 with (first | (go_at_call 20; (with_reducible refine (collect_Collector_Records.calls g185 x186000_38 t199 t202 w _ ?side1 ?side2 A47.out).mono ?_); (case side1 => repeat (first | (with_reducible first | exact HI185.out | apply IsS58.alloc | apply IsS58.drewN | apply IsS58.drew | apply IsS58.set_0) | exact HI185.out)); (case side2 => repeat (first | (with_reducible first | exact HB.out | apply below_alloc | apply pw_below_drewN | apply below_drew1 | refine below_set ?_ (IsS58.ge HI185.out)) | exact HB.out)); rintro e w49 ⟨v200, rfl, ho0, hi, hb, hk⟩; have n0_ := Aside0.mk (Kd.R_mono (Kd.R_told (Kd.R_oldK (IsS58.apart (show IsS58 w _ g185 x186000_38 from by repeat (first | (with_reducible first | exact HI185.out | apply IsS58.alloc | apply IsS58.drewN | apply IsS58.drew | apply IsS58.set_0) | exact HI185.out)) (by (with_reducible repeat (first | apply Kd.R_alloc | apply Kd.R_drewN | apply Kd.R_drew)); exact HO_5.out) (by decide)) hk) (Kd.R_base ho0)) (fun _ h_ => h_.1)); have n1_ := Aside0.mk (Kd.R_lower (Kd.R_new' ho0 (Kd.R_lt (by (with_reducible repeat (first | apply Kd.R_alloc | apply Kd.R_drewN | apply Kd.R_drew)); exact HO_5.out))) (below_size (by repeat (first | (with_reducible first | exact HB.out | apply below_alloc | apply pw_below_drewN | apply below_drew1 | refine below_set ?_ (IsS58.ge HI185.out)) | exact HB.out)))); have n2_ := Aside0.mk (hb); have n3_ := Aside0.mk (hi); clear HO_5; clear HB; clear HI185; have HO_5 := n0_; have HO201 := n1_; have HB := n2_; have HI185 := n3_; clear n0_ n1_ n2_ n3_; (try clear hb); (try clear hb2); (try clear hk); (try clear hi); (try clear ho0)))
           repeat (go_quiet (first | (go_at_call 20; (with_reducible refine (collect_Collector_Records.calls g185 x186000_38 t199 t202 w _ ?side1 ?side2 A47.out).mono ?_); (case side1 => repeat (first | (with_reducible first | exact HI185.out | apply IsS58.alloc | apply IsS58.drewN | apply IsS58.drew | apply IsS58.set_0) | exact HI185.out)); (case side2 => repeat (first | (with_reducible first | exact HB.out | apply below_alloc | apply pw_below_drewN | apply below_drew1 | refine below_set ?_ (IsS58.ge HI185.out)) | exact HB.out)); rintro e w49 ⟨v200, rfl, ho0, hi, hb, hk⟩; have n0_ := Aside0.mk (Kd.R_mono (Kd.R_told (Kd.R_oldK (IsS58.apart (show IsS58 w _ g185 x186000_38 from by repeat (first | (with_reducible first | exact HI185.out | apply IsS58.alloc | apply IsS58.drewN | apply IsS58.drew | apply IsS58.set_0) | exact HI185.out)) (by (with_reducible repeat (first | apply Kd.R_alloc | apply Kd.R_drewN | apply Kd.R_drew)); exact HO_5.out) (by decide)) hk) (Kd.R_base ho0)) (fun _ h_ => h_.1)); have n1_ := Aside0.mk (Kd.R_lower (Kd.R_new' ho0 (Kd.R_lt (by (with_reducible repeat (first | apply Kd.R_alloc | apply Kd.R_drewN | apply Kd.R_drew)); exact HO_5.out))) (below_size (by repeat (first | (with_reducible first | exact HB.out | apply below_alloc | apply pw_below_drewN | apply below_drew1 | refine below_set ?_ (IsS58.ge HI185.out)) | exact HB.out)))); have n2_ := Aside0.mk (hb); have n3_ := Aside0.mk (hi); clear HO_5; clear HB; clear HI185; have HO_5 := n0_; have HO201 := n1_; have HB := n2_; have HI185 := n3_; clear n0_ n1_ n2_ n3_; (try clear hb); (try clear hb2); (try clear hk); (try clear hi); (try clear ho0))); go_upto_region 23 with (first | (go_at_call 20; (with_reducible refine (collect_Collector_Records.calls g185 x186000_38 t199 t202 w _ ?side1 ?side2 A47.out).mono ?_); (case side1 => repeat (first | (with_reducible first | exact HI185.out | apply IsS58.alloc | apply IsS58.drewN | apply IsS58.drew | apply IsS58.set_0) | exact HI185.out)); (case side2 => repeat (first | (with_reducible first | exact HB.out | apply below_alloc | apply pw_below_drewN | apply below_drew1 | refine below_set ?_ (IsS58.ge HI185.out)) | exact HB.out)); rintro e w49 ⟨v200, rfl, ho0, hi, hb, hk⟩; have n0_ := Aside0.mk (Kd.R_mono (Kd.R_told (Kd.R_oldK (IsS58.apart (show IsS58 w _ g185 x186000_38 from by repeat (first | (with_reducible first | exact HI185.out | apply IsS58.alloc | apply IsS58.drewN | apply IsS58.drew | apply IsS58.set_0) | exact HI185.out)) (by (with_reducible repeat (first | apply Kd.R_alloc | apply Kd.R_drewN | apply Kd.R_drew)); exact HO_5.out) (by decide)) hk) (Kd.R_base ho0)) (fun _ h_ => h_.1)); have n1_ := Aside0.mk (Kd.R_lower (Kd.R_new' ho0 (Kd.R_lt (by (with_reducible repeat (first | apply Kd.R_alloc | apply Kd.R_drewN | apply Kd.R_drew)); exact HO_5.out))) (below_size (by repeat (first | (with_reducible first | exact HB.out | apply below_alloc | apply pw_below_drewN | apply below_drew1 | refine below_set ?_ (IsS58.ge HI185.out)) | exact HB.out)))); have n2_ := Aside0.mk (hb); have n3_ := Aside0.mk (hi); clear HO_5; clear HB; clear HI185; have HO_5 := n0_; have HO201 := n1_; have HB := n2_; have HI185 := n3_; clear n0_ n1_ n2_ n3_; (try clear hb); (try clear hb2); (try clear hk); (try clear hi); (try clear ho0))))
           (try simp only [Act.put, List.setIfInBounds_toArray, List.set_cons_zero, List.set_cons_succ])
           go_cut [112] (fun v112 wc => ∃ (kq : Nat) (x112_47 : Bool), v112 = .bool x112_47 ∧ Aside0 (plenumlaw42_CollectComplete.j3 kq a0 t181 t199 x112_47 = some r) ∧ Aside0 (kq ≤ kj38) ∧ Aside0 (Kd.R k42 42 wc w.heap.size (fun k_ => some k_ ≠ (v200 : Value).ownBlock) v182 t181) ∧ Aside0 (Kd.R k42 42 wc w.heap.size (fun k_ => some k_ ≠ (v182 : Value).ownBlock) v200 t199) ∧ Aside0 (Below w.heap.size w wc))
           case first =>
            have H := HC48.out
            clear HC48
            by_cases c50 : x8_2 = 0
            ·rw [if_pos c50] at H
             have c50b0 : (x8_2 == 0) = true := beq_iff_eq.mpr c50
             have c50b1 : (x8_2 != 0) = false := bne_eq_false_iff_eq.mpr c50
             clear c50
             (first | rw [c50b0] | (simp only [i64_w, i32_w]; rw [c50b0]) | skip)
             by_cases c51 : 0 ≤ x7_2
             ·rw [if_pos c51] at H
              have c51b0 := eq_true c51
              have c51b1 : decide (0 ≤ x7_2) = true := decide_eq_true c51
              clear c51
              by_cases c52 : x7_2 ≤ (t181.length : Int)
              ·rw [if_pos c52] at H
               have c52b0 := eq_true c52
               have c52b1 : decide (x7_2 ≤ (t181.length : Int)) = true := decide_eq_true c52
               clear c52
               obtain ⟨y203, hy203⟩ : ∃ y_ : List (S42), y_ = (t181.take (x7_2 : Int).toNat) := ⟨_, rfl⟩
               replace H : ((plenumref42_Same.f kj38 t199 y203).bind fun t207 => (plenumlaw42_CollectComplete.j3 kj38 a0 t181 t199 (!t207))) = some r := by first | (rw [hy203]; with_reducible exact H) | (have H2_ := (Option.bind_some _ _).symm.trans H; rw [hy203]; with_reducible exact H2_) | (have H2_ := (Option.bind_some _ _).symm.trans H; with_reducible exact H2_) | with_reducible exact H | (rw [hy203]; exact H) | exact H
               have Ny203 := Aside0.mk hy203
               clear hy203
               replace H := Option.bind_eq_some_iff.mp H
               obtain ⟨t207, A530, H⟩ := H
               replace H : (plenumlaw42_CollectComplete.j3 kj38 a0 t181 t199 (!t207)) = some r := H
               have A53 := Aside0.mk A530
               clear A530
               have H' := Aside0.mk H
               clear H
               obtain ⟨Ao55, co55, eo55⟩ := Kd.R_slice HO_5.out
               subst eo55
               have q54 : (x7_2 : Int) ≤ ((t181.length : Int) : Int) := of_decide_eq_true (by first | (with_reducible assumption) | assumption)
               obtain ⟨i054, hi054, _, hsz54, _⟩ := info_parts info42
               have hroom54 : t181.length ≤ co55 := (Kd.R_reads' HO_5.out).2.1
               have hC54 : Kd.C k42 _ Ao55 t181.length t181 := (Kd.R_reads' HO_5.out).2.2
               have hcut54 := cut_to (P := Try.prog) 27 42 .i64 Try.underlying27 hi054 Ao55 t181.length co55 x7_2 (of_decide_eq_true (by first | (with_reducible assumption) | assumption)) q54 hroom54
               have hr54 := Kd.C_take (m := (x7_2 : Int).toNat) hC54 (by omega)
               have hy54 : y203.length = (x7_2 : Int).toNat := (by rw [Ny203.out, List.length_take]; omega)
               rw [← Ny203.out] at hr54
               rw [← hy54] at hcut54
               have HR206 := Aside0.mk hr54
               have HC206 := Aside0.mk (show y203.length ≤ co55 from by omega)
               clear hr54 hC54 hroom54 hi054 hsz54
               have KY54 := Aside0.mk hy54
               clear hy54
               have KL54 := Aside0.mk (show (x7_2 : Int).toNat ≤ t181.length from by omega)
               replace q54 := eq_true q54
               obtain ⟨Ao56, co56, eo56⟩ := Kd.R_slice HO201.out
               subst eo56
               go_wp2_with (first | (go_at_call 19; (with_reducible refine (plenumref42_Same.calls kj38 _ _ t199 _ _ y203 t207 _ ?side1 ?side2 ?side3 ?side4 A53.out).mono ?_); (case side1 => repeat (first | exact (Kd.R_reads' HO201.out).2.2 | (with_reducible refine Kd.C_alloc ?_ _) | (with_reducible refine Kd.C_drewN ?_ _) | (with_reducible refine Kd.C_drew ?_))); (case side2 => exact (Kd.R_reads' HO201.out).2.1); (case side3 => repeat (first | exact (by repeat (first | (with_reducible exact HR206.out) | (with_reducible refine Kd.C_alloc ?_ _) | (with_reducible refine Kd.C_drewN ?_ _) | (with_reducible refine Kd.C_drew ?_) | exact HR206.out)) | (with_reducible refine Kd.C_alloc ?_ _) | (with_reducible refine Kd.C_drewN ?_ _) | (with_reducible refine Kd.C_drew ?_))); (case side4 => exact HC206.out); rintro e w' ⟨rfl, ⟨nd, rfl⟩⟩; (try first | exact ⟨rfl, _, World.drewN_drewN _ _ _⟩ | exact ⟨rfl, _, Eq.trans (World.drewN_drewN _ _ _) (congrArg (World.drewN _) (Nat.add_assoc _ _ _))⟩)))
               repeat (go_quiet (first | (go_at_call 19; (with_reducible refine (plenumref42_Same.calls kj38 _ _ t199 _ _ y203 t207 _ ?side1 ?side2 ?side3 ?side4 A53.out).mono ?_); (case side1 => repeat (first | exact (Kd.R_reads' HO201.out).2.2 | (with_reducible refine Kd.C_alloc ?_ _) | (with_reducible refine Kd.C_drewN ?_ _) | (with_reducible refine Kd.C_drew ?_))); (case side2 => exact (Kd.R_reads' HO201.out).2.1); (case side3 => repeat (first | exact (by repeat (first | (with_reducible exact HR206.out) | (with_reducible refine Kd.C_alloc ?_ _) | (with_reducible refine Kd.C_drewN ?_ _) | (with_reducible refine Kd.C_drew ?_) | exact HR206.out)) | (with_reducible refine Kd.C_alloc ?_ _) | (with_reducible refine Kd.C_drewN ?_ _) | (with_reducible refine Kd.C_drew ?_))); (case side4 => exact HC206.out); rintro e w' ⟨rfl, ⟨nd, rfl⟩⟩; (try first | exact ⟨rfl, _, World.drewN_drewN _ _ _⟩ | exact ⟨rfl, _, Eq.trans (World.drewN_drewN _ _ _) (congrArg (World.drewN _) (Nat.add_assoc _ _ _))⟩))); try go_wp2_with (first | (go_at_call 19; (with_reducible refine (plenumref42_Same.calls kj38 _ _ t199 _ _ y203 t207 _ ?side1 ?side2 ?side3 ?side4 A53.out).mono ?_); (case side1 => repeat (first | exact (Kd.R_reads' HO201.out).2.2 | (with_reducible refine Kd.C_alloc ?_ _) | (with_reducible refine Kd.C_drewN ?_ _) | (with_reducible refine Kd.C_drew ?_))); (case side2 => exact (Kd.R_reads' HO201.out).2.1); (case side3 => repeat (first | exact (by repeat (first | (with_reducible exact HR206.out) | (with_reducible refine Kd.C_alloc ?_ _) | (with_reducible refine Kd.C_drewN ?_ _) | (with_reducible refine Kd.C_drew ?_) | exact HR206.out)) | (with_reducible refine Kd.C_alloc ?_ _) | (with_reducible refine Kd.C_drewN ?_ _) | (with_reducible refine Kd.C_drew ?_))); (case side4 => exact HC206.out); rintro e w' ⟨rfl, ⟨nd, rfl⟩⟩; (try first | exact ⟨rfl, _, World.drewN_drewN _ _ _⟩ | exact ⟨rfl, _, Eq.trans (World.drewN_drewN _ _ _) (congrArg (World.drewN _) (Nat.add_assoc _ _ _))⟩))))
               go_meet
               case rel => exact ⟨_, (!t207), (by first | rfl | (simp; done) | (simp [*]; done)), H', ⟨by have := HJ4.out; have := HK2.out; have := HJ38.out; first | omega | exact Nat.le_refl _⟩, ⟨by (with_reducible repeat (first | apply Kd.R_alloc | apply Kd.R_drewN | apply Kd.R_drew)); exact Kd.R_mono HO_5.out (fun _ hk => hk.2)⟩, ⟨by (with_reducible repeat (first | apply Kd.R_alloc | apply Kd.R_drewN | apply Kd.R_drew)); exact Kd.R_mono HO201.out (fun _ hk => hk.2)⟩, ⟨by repeat (first | (with_reducible first | exact HB.out | apply below_alloc | apply pw_below_drewN | apply below_drew1 | refine below_set ?_ (IsS58.ge HI185.out)) | exact HB.out)⟩⟩
              ·rw [if_neg c52] at H
               exact absurd H (by simp)
             ·rw [if_neg c51] at H
              exact absurd H (by simp)
            ·rw [if_neg c50] at H
             have c50b0 : (x8_2 == 0) = false := beq_eq_false_iff_ne.mpr c50
             have c50b1 : (x8_2 != 0) = true := bne_iff_ne.mpr c50
             (first | rw [c50b0] | (simp only [i64_w, i32_w]; rw [c50b0]) | skip)
             have H' := Aside0.mk H
             clear H
             go_wp2
             repeat (go_quiet (fail); try go_wp2)
             go_meet
             case rel => exact ⟨_, (false), (by first | rfl | (simp; done) | (simp [*]; done)), H', ⟨by have := HJ4.out; have := HK2.out; have := HJ38.out; first | omega | exact Nat.le_refl _⟩, ⟨by (with_reducible repeat (first | apply Kd.R_alloc | apply Kd.R_drewN | apply Kd.R_drew)); exact Kd.R_mono HO_5.out (fun _ hk => hk.2)⟩, ⟨by (with_reducible repeat (first | apply Kd.R_alloc | apply Kd.R_drewN | apply Kd.R_drew)); exact Kd.R_mono HO201.out (fun _ hk => hk.2)⟩, ⟨by repeat (first | (with_reducible first | exact HB.out | apply below_alloc | apply pw_below_drewN | apply below_drew1 | refine below_set ?_ (IsS58.ge HI185.out)) | exact HB.out)⟩⟩
           case rest =>
            clear HC48
            try clear c1
            try clear p1
            try clear q1
            try clear hx1
            try clear c2
            try clear p2
            try clear q2
            try clear c3
            try clear q3
            try clear c4
            try clear q4
            try clear c5
            try clear q5
            try clear p6
            try clear c7
            try clear c7b0
            try clear c8
            try clear c8b0
            try clear c9
            try clear c14
            try clear c14b0
            try clear c15
            try clear c15b0
            try clear c16
            try clear c16b0
            try clear c16b1
            try clear c17
            try clear c17b0
            try clear c17b1
            try clear p18
            try clear q18
            try clear hx18
            try clear c19
            try clear c19b0
            try clear c19b1
            try clear c20
            try clear c20b0
            try clear c20b1
            try clear c21
            try clear c21b0
            try clear c21b1
            try clear c23
            try clear c23b0
            try clear c23b1
            try clear c24
            try clear c24b0
            try clear c25
            try clear c25b0
            try clear c27
            try clear q27
            try clear c30
            try clear q30
            try clear c33
            try clear q33
            try clear c36
            try clear q36
            try clear c41
            try clear c41b0
            try clear c41b1
            try clear c46
            try clear c50
            try clear c50b0
            try clear c50b1
            try clear c51
            try clear c51b0
            try clear c51b1
            try clear c52
            try clear c52b0
            try clear c52b1
            try clear q54
            try clear hx186_0
            try clear hx186_1
            try clear hx187_0
            try clear hx187_1
            try clear p1
            try clear p18
            try clear p186
            try clear p187
            try clear p2
            try clear p6
            try clear q027
            try clear q030
            try clear q033
            try clear q036
            try clear q1
            try clear q18
            try clear q186
            try clear q187
            try clear q2
            try clear q27
            try clear q3
            try clear q30
            try clear q33
            try clear q36
            try clear q4
            try clear q54
            obtain ⟨kq, x112_47, rfl, HA, HJ47, HO_5, HO_14, HB⟩ := hcut
            cases kq with
            | zero => exact absurd HA.out (by simp [plenumlaw42_CollectComplete.j3])
            | succ kj47 =>
             have H := HA.out
             clear HA
             simp only [plenumlaw42_CollectComplete.j3] at H
             by_cases c57 : x112_47 = true
             ·subst c57
              have H1 : (some false) = some r := by rw [if_pos rfl] at H; exact H
              clear H
              have H := H1
              clear H1
              obtain rfl := Option.some.inj H
              go_wp2
              repeat (go_quiet (fail); try go_wp2)
              go_ret
              exact ⟨by first | rfl | (simp [errW_none, errW_some] <;> rfl) | (simp [*, errW_none, errW_some] <;> rfl), by repeat (first | (with_reducible first | exact HB.out | apply below_alloc | apply pw_below_drewN | apply below_drew1) | exact HB.out)⟩
             ·replace c57 := Bool.eq_false_iff.mpr c57
              subst c57
              have H1 : (plenumlaw42_CollectComplete.l1 kj47 a0 t181 t199 0) = some r := by rw [if_neg (show ¬ (false = true) by decide)] at H; exact H
              clear H
              have H := H1
              clear H1
              have H' := Aside0.mk H
              clear H
              go_wp2
              repeat (go_quiet (fail); try go_wp2)
              go_loopg [15] kj47 (fun kq v15 w' => ∃ (x15_5 : Int), v15 = .int .i64 x15_5 ∧ Aside0 (plenumlaw42_CollectComplete.l1 kq a0 t181 t199 x15_5 = some r) ∧ Aside0 (kq ≤ kj47) ∧ Aside0 (Kd.R k42 42 w' w.heap.size (fun k_ => some k_ ≠ (v200 : Value).ownBlock) v182 t181) ∧ Aside0 (Kd.R k42 42 w' w.heap.size (fun k_ => some k_ ≠ (v182 : Value).ownBlock) v200 t199) ∧ Aside0 (Below w.heap.size w w'))
              case atStart => exact ⟨(0), (by first | rfl | (simp; done) | (simp [*]; done)), H', ⟨Nat.le_refl _⟩, ⟨by (with_reducible repeat (first | apply Kd.R_alloc | apply Kd.R_drewN | apply Kd.R_drew)); exact HO_5.out⟩, ⟨by (with_reducible repeat (first | apply Kd.R_alloc | apply Kd.R_drewN | apply Kd.R_drew)); exact HO_14.out⟩, ⟨by repeat (first | (with_reducible first | exact HB.out | apply below_alloc | apply pw_below_drewN | apply below_drew1) | exact HB.out)⟩⟩
              case round =>
               clear H'
               try clear c1
               try clear p1
               try clear q1
               try clear hx1
               try clear c2
               try clear p2
               try clear q2
               try clear c3
               try clear q3
               try clear c4
               try clear q4
               try clear c5
               try clear q5
               try clear p6
               try clear c7
               try clear c7b0
               try clear c8
               try clear c8b0
               try clear c9
               try clear c14
               try clear c14b0
               try clear c15
               try clear c15b0
               try clear c16
               try clear c16b0
               try clear c16b1
               try clear c17
               try clear c17b0
               try clear c17b1
               try clear p18
               try clear q18
               try clear hx18
               try clear c19
               try clear c19b0
               try clear c19b1
               try clear c20
               try clear c20b0
               try clear c20b1
               try clear c21
               try clear c21b0
               try clear c21b1
               try clear c23
               try clear c23b0
               try clear c23b1
               try clear c24
               try clear c24b0
               try clear c25
               try clear c25b0
               try clear c27
               try clear q27
               try clear c30
               try clear q30
               try clear c33
               try clear q33
               try clear c36
               try clear q36
               try clear c41
               try clear c41b0
               try clear c41b1
               try clear c46
               try clear c50
               try clear c50b0
               try clear c50b1
               try clear c51
               try clear c51b0
               try clear c51b1
               try clear c52
               try clear c52b0
               try clear c52b1
               try clear q54
               try clear c57
               try clear hx186_0
               try clear hx186_1
               try clear hx187_0
               try clear hx187_1
               try clear p1
               try clear p18
               try clear p186
               try clear p187
               try clear p2
               try clear p6
               try clear q027
               try clear q030
               try clear q033
               try clear q036
               try clear q1
               try clear q18
               try clear q186
               try clear q187
               try clear q2
               try clear q27
               try clear q3
               try clear q30
               try clear q33
               try clear q36
               try clear q4
               try clear q5
               try clear q54
               obtain ⟨x15_5, rfl, HA, HK5, HO_5, HO_14, HB⟩ := hrel
               cases gk with
               | zero => exact absurd HA.out (by simp [plenumlaw42_CollectComplete.l1])
               | succ k5 =>
                have H := HA.out
                clear HA
                simp only [plenumlaw42_CollectComplete.l1] at H
                by_cases c58 : x15_5 < (t199.length : Int)
                ·rw [if_pos c58] at H
                 have c58b0 : decide (x15_5 < (t199.length : Int)) = true := decide_eq_true c58
                 clear c58
                 by_cases c59 : 0 ≤ x15_5
                 ·rw [if_pos c59] at H
                  have c59b0 : decide (0 ≤ x15_5) = true := decide_eq_true c59
                  clear c59
                  by_cases c60 : ((rd_T42 t199 x15_5).f4) = 0
                  ·rw [if_pos c60] at H
                   have c60b0 : (((rd_T42 t199 x15_5).f4) == 0) = true := beq_iff_eq.mpr c60
                   have c60b1 : (((rd_T42 t199 x15_5).f4) != 0) = false := bne_eq_false_iff_eq.mpr c60
                   clear c60
                   by_cases c61 : ((rd_T42 t199 x15_5).f0) > a0
                   ·rw [if_pos c61] at H
                    have c61b0 : decide (a0 < ((rd_T42 t199 x15_5).f0)) = true := decide_eq_true c61
                    clear c61
                    obtain rfl := Option.some.inj H
                    obtain ⟨Ao62, co62, eo62⟩ := Kd.R_slice HO_14.out
                    subst eo62
                    have p208 : 0 ≤ (x15_5 : Int) := of_decide_eq_true (by first | (with_reducible assumption) | assumption)
                    have q208 : x15_5 < (t199.length : Int) := of_decide_eq_true (by first | (with_reducible assumption) | assumption)
                    obtain ⟨ad208, e208, hx208_0, hx208_1, hx208_2, hx208_3, hx208_4, hx208_5⟩ := at_T42 (Kd.R_reads' HO_14.out).2.2 x15_5 p208 q208
                    cases e208
                    replace p208 := eq_true p208
                    replace q208 := eq_true q208
                    have p209 : 0 ≤ (x15_5 : Int) := of_decide_eq_true (by first | (with_reducible assumption) | assumption)
                    have q209 : x15_5 < (t199.length : Int) := of_decide_eq_true (by first | (with_reducible assumption) | assumption)
                    obtain ⟨ad209, e209, hx209_0, hx209_1, hx209_2, hx209_3, hx209_4, hx209_5⟩ := at_T42 (Kd.R_reads' HO_14.out).2.2 x15_5 p209 q209
                    obtain rfl : ad208 = ad209 := (by injection e209)
                    replace p209 := eq_true p209
                    replace q209 := eq_true q209
                    go_wp2
                    repeat (go_quiet (fail); try go_wp2)
                    go_ret
                    exact ⟨by first | rfl | (simp [errW_none, errW_some] <;> rfl) | (simp [*, errW_none, errW_some] <;> rfl), by repeat (first | (with_reducible first | exact HB.out | apply below_alloc | apply pw_below_drewN | apply below_drew1) | exact HB.out)⟩
                   ·rw [if_neg c61] at H
                    have c61b0 : decide (a0 < ((rd_T42 t199 x15_5).f0)) = false := decide_eq_false c61
                    clear c61
                    obtain ⟨ji63, hji63⟩ : ∃ j_ : Int, (wrap64 (((rd_T42 t199 x15_5).f0) - 1)) = j_ := ⟨_, rfl⟩
                    replace H : (if 0 ≤ (ji63) then (if (ji63) < (t181.length : Int) then (if (!(((rd_T42 t199 x15_5).f0) == ((rd_T42 t181 (ji63)).f0)) || (!(((rd_T42 t199 x15_5).f1) == ((rd_T42 t181 (ji63)).f1)) || ((!(((rd_T42 t199 x15_5).f2.f0) == ((rd_T42 t181 (ji63)).f2.f0)) || (!(((rd_T42 t199 x15_5).f2.f1) == ((rd_T42 t181 (ji63)).f2.f1)))) || (!(((rd_T42 t199 x15_5).f3) == ((rd_T42 t181 (ji63)).f3)) || (!(((rd_T42 t199 x15_5).f4) == ((rd_T42 t181 (ji63)).f4))))))) = true then (some false) else (plenumlaw42_CollectComplete.l1 k5 a0 t181 t199 (wrap64 (x15_5 + 1)))) else (none)) else (none)) = some r := by first | (rw [hji63] at H; exact H) | (simp only [hji63] at H ⊢; exact H)
                    have hji63w : (IntKind.i64.wrap (((rd_T42 t199 x15_5).f0) - 1)) = ji63 := (i64_w _).trans hji63
                    by_cases c64 : 0 ≤ (ji63)
                    ·rw [if_pos c64] at H
                     have c64b0 : decide (0 ≤ (ji63)) = true := decide_eq_true c64
                     clear c64
                     by_cases c65 : (ji63) < (t181.length : Int)
                     ·rw [if_pos c65] at H
                      have c65b0 : decide ((ji63) < (t181.length : Int)) = true := decide_eq_true c65
                      clear c65
                      by_cases c66 : (!(((rd_T42 t199 x15_5).f0) == ((rd_T42 t181 (ji63)).f0)) || (!(((rd_T42 t199 x15_5).f1) == ((rd_T42 t181 (ji63)).f1)) || ((!(((rd_T42 t199 x15_5).f2.f0) == ((rd_T42 t181 (ji63)).f2.f0)) || (!(((rd_T42 t199 x15_5).f2.f1) == ((rd_T42 t181 (ji63)).f2.f1)))) || (!(((rd_T42 t199 x15_5).f3) == ((rd_T42 t181 (ji63)).f3)) || (!(((rd_T42 t199 x15_5).f4) == ((rd_T42 t181 (ji63)).f4))))))) = true
                      ·rw [if_pos c66] at H
                       have c66b0 : (!(((rd_T42 t199 x15_5).f0) == ((rd_T42 t181 (ji63)).f0)) || (!(((rd_T42 t199 x15_5).f1) == ((rd_T42 t181 (ji63)).f1)) || ((!(((rd_T42 t199 x15_5).f2.f0) == ((rd_T42 t181 (ji63)).f2.f0)) || (!(((rd_T42 t199 x15_5).f2.f1) == ((rd_T42 t181 (ji63)).f2.f1)))) || (!(((rd_T42 t199 x15_5).f3) == ((rd_T42 t181 (ji63)).f3)) || (!(((rd_T42 t199 x15_5).f4) == ((rd_T42 t181 (ji63)).f4))))))) = true := c66
                       clear c66
                       obtain rfl := Option.some.inj H
                       obtain ⟨Ao67, co67, eo67⟩ := Kd.R_slice HO_14.out
                       subst eo67
                       have p208 : 0 ≤ (x15_5 : Int) := of_decide_eq_true (by first | (with_reducible assumption) | assumption)
                       have q208 : x15_5 < (t199.length : Int) := of_decide_eq_true (by first | (with_reducible assumption) | assumption)
                       obtain ⟨ad208, e208, hx208_0, hx208_1, hx208_2, hx208_3, hx208_4, hx208_5⟩ := at_T42 (Kd.R_reads' HO_14.out).2.2 x15_5 p208 q208
                       cases e208
                       replace p208 := eq_true p208
                       replace q208 := eq_true q208
                       have p209 : 0 ≤ (x15_5 : Int) := of_decide_eq_true (by first | (with_reducible assumption) | assumption)
                       have q209 : x15_5 < (t199.length : Int) := of_decide_eq_true (by first | (with_reducible assumption) | assumption)
                       obtain ⟨ad209, e209, hx209_0, hx209_1, hx209_2, hx209_3, hx209_4, hx209_5⟩ := at_T42 (Kd.R_reads' HO_14.out).2.2 x15_5 p209 q209
                       obtain rfl : ad208 = ad209 := (by injection e209)
                       replace p209 := eq_true p209
                       replace q209 := eq_true q209
                       have p210 : 0 ≤ (x15_5 : Int) := of_decide_eq_true (by first | (with_reducible assumption) | assumption)
                       have q210 : x15_5 < (t199.length : Int) := of_decide_eq_true (by first | (with_reducible assumption) | assumption)
                       obtain ⟨ad210, e210, hx210_0, hx210_1, hx210_2, hx210_3, hx210_4, hx210_5⟩ := at_T42 (Kd.R_reads' HO_14.out).2.2 x15_5 p210 q210
                       obtain rfl : ad208 = ad210 := (by injection e210)
                       replace p210 := eq_true p210
                       replace q210 := eq_true q210
                       have p211 : 0 ≤ (x15_5 : Int) := of_decide_eq_true (by first | (with_reducible assumption) | assumption)
                       have q211 : x15_5 < (t199.length : Int) := of_decide_eq_true (by first | (with_reducible assumption) | assumption)
                       obtain ⟨ad211, e211, hx211_0, hx211_1, hx211_2, hx211_3, hx211_4, hx211_5⟩ := at_T42 (Kd.R_reads' HO_14.out).2.2 x15_5 p211 q211
                       obtain rfl : ad208 = ad211 := (by injection e211)
                       replace p211 := eq_true p211
                       replace q211 := eq_true q211
                       obtain ⟨Ao68, co68, eo68⟩ := Kd.R_slice HO_5.out
                       subst eo68
                       have p212 : 0 ≤ ((ji63) : Int) := of_decide_eq_true (by first | (with_reducible assumption) | assumption)
                       have q212 : (ji63) < (t181.length : Int) := of_decide_eq_true (by first | (with_reducible assumption) | assumption)
                       obtain ⟨ad212, e212, hx212_0, hx212_1, hx212_2, hx212_3, hx212_4, hx212_5⟩ := at_T42 (Kd.R_reads' HO_5.out).2.2 (ji63) p212 q212
                       cases e212
                       replace p212 := eq_true p212
                       replace q212 := eq_true q212
                       go_wp2
                       repeat (go_quiet (fail); try go_wp2)
                       go_ret
                       exact ⟨by first | rfl | (simp [errW_none, errW_some] <;> rfl) | (simp only [← hji63]; first | rfl | (simp [errW_none, errW_some] <;> rfl)) | (simp [*, errW_none, errW_some] <;> rfl), by repeat (first | (with_reducible first | exact HB.out | apply below_alloc | apply pw_below_drewN | apply below_drew1) | exact HB.out)⟩
                      ·rw [if_neg c66] at H
                       have c66b0 : (!(((rd_T42 t199 x15_5).f0) == ((rd_T42 t181 (ji63)).f0)) || (!(((rd_T42 t199 x15_5).f1) == ((rd_T42 t181 (ji63)).f1)) || ((!(((rd_T42 t199 x15_5).f2.f0) == ((rd_T42 t181 (ji63)).f2.f0)) || (!(((rd_T42 t199 x15_5).f2.f1) == ((rd_T42 t181 (ji63)).f2.f1)))) || (!(((rd_T42 t199 x15_5).f3) == ((rd_T42 t181 (ji63)).f3)) || (!(((rd_T42 t199 x15_5).f4) == ((rd_T42 t181 (ji63)).f4))))))) = false := by simpa using c66
                       clear c66
                       have H' := Aside0.mk H
                       clear H
                       obtain ⟨Ao69, co69, eo69⟩ := Kd.R_slice HO_14.out
                       subst eo69
                       have p208 : 0 ≤ (x15_5 : Int) := of_decide_eq_true (by first | (with_reducible assumption) | assumption)
                       have q208 : x15_5 < (t199.length : Int) := of_decide_eq_true (by first | (with_reducible assumption) | assumption)
                       obtain ⟨ad208, e208, hx208_0, hx208_1, hx208_2, hx208_3, hx208_4, hx208_5⟩ := at_T42 (Kd.R_reads' HO_14.out).2.2 x15_5 p208 q208
                       cases e208
                       replace p208 := eq_true p208
                       replace q208 := eq_true q208
                       have p209 : 0 ≤ (x15_5 : Int) := of_decide_eq_true (by first | (with_reducible assumption) | assumption)
                       have q209 : x15_5 < (t199.length : Int) := of_decide_eq_true (by first | (with_reducible assumption) | assumption)
                       obtain ⟨ad209, e209, hx209_0, hx209_1, hx209_2, hx209_3, hx209_4, hx209_5⟩ := at_T42 (Kd.R_reads' HO_14.out).2.2 x15_5 p209 q209
                       obtain rfl : ad208 = ad209 := (by injection e209)
                       replace p209 := eq_true p209
                       replace q209 := eq_true q209
                       have p210 : 0 ≤ (x15_5 : Int) := of_decide_eq_true (by first | (with_reducible assumption) | assumption)
                       have q210 : x15_5 < (t199.length : Int) := of_decide_eq_true (by first | (with_reducible assumption) | assumption)
                       obtain ⟨ad210, e210, hx210_0, hx210_1, hx210_2, hx210_3, hx210_4, hx210_5⟩ := at_T42 (Kd.R_reads' HO_14.out).2.2 x15_5 p210 q210
                       obtain rfl : ad208 = ad210 := (by injection e210)
                       replace p210 := eq_true p210
                       replace q210 := eq_true q210
                       have p211 : 0 ≤ (x15_5 : Int) := of_decide_eq_true (by first | (with_reducible assumption) | assumption)
                       have q211 : x15_5 < (t199.length : Int) := of_decide_eq_true (by first | (with_reducible assumption) | assumption)
                       obtain ⟨ad211, e211, hx211_0, hx211_1, hx211_2, hx211_3, hx211_4, hx211_5⟩ := at_T42 (Kd.R_reads' HO_14.out).2.2 x15_5 p211 q211
                       obtain rfl : ad208 = ad211 := (by injection e211)
                       replace p211 := eq_true p211
                       replace q211 := eq_true q211
                       obtain ⟨Ao70, co70, eo70⟩ := Kd.R_slice HO_5.out
                       subst eo70
                       have p212 : 0 ≤ ((ji63) : Int) := of_decide_eq_true (by first | (with_reducible assumption) | assumption)
                       have q212 : (ji63) < (t181.length : Int) := of_decide_eq_true (by first | (with_reducible assumption) | assumption)
                       obtain ⟨ad212, e212, hx212_0, hx212_1, hx212_2, hx212_3, hx212_4, hx212_5⟩ := at_T42 (Kd.R_reads' HO_5.out).2.2 (ji63) p212 q212
                       cases e212
                       replace p212 := eq_true p212
                       replace q212 := eq_true q212
                       go_wp2
                       repeat (go_quiet (fail); try go_wp2)
                       go_roundg k5
                       case measure => have := HJ4.out; have := HK2.out; have := HJ38.out; have := HJ47.out; have := HK5.out; omega
                       case rel => exact ⟨(wrap64 (x15_5 + 1)), (by first | rfl | (simp; done) | (simp [*]; done)), H', ⟨by have := HJ4.out; have := HK2.out; have := HJ38.out; have := HJ47.out; have := HK5.out; omega⟩, ⟨by (with_reducible repeat (first | apply Kd.R_alloc | apply Kd.R_drewN | apply Kd.R_drew)); exact HO_5.out⟩, ⟨by (with_reducible repeat (first | apply Kd.R_alloc | apply Kd.R_drewN | apply Kd.R_drew)); exact HO_14.out⟩, ⟨by repeat (first | (with_reducible first | exact HB.out | apply below_alloc | apply pw_below_drewN | apply below_drew1) | exact HB.out)⟩⟩
                     ·rw [if_neg c65] at H
                      exact absurd H (by simp)
                    ·rw [if_neg c64] at H
                     exact absurd H (by simp)
                  ·rw [if_neg c60] at H
                   have c60b0 : (((rd_T42 t199 x15_5).f4) == 0) = false := beq_eq_false_iff_ne.mpr c60
                   have c60b1 : (((rd_T42 t199 x15_5).f4) != 0) = true := bne_iff_ne.mpr c60
                   have H' := Aside0.mk H
                   clear H
                   obtain ⟨Ao71, co71, eo71⟩ := Kd.R_slice HO_14.out
                   subst eo71
                   have p208 : 0 ≤ (x15_5 : Int) := of_decide_eq_true (by first | (with_reducible assumption) | assumption)
                   have q208 : x15_5 < (t199.length : Int) := of_decide_eq_true (by first | (with_reducible assumption) | assumption)
                   obtain ⟨ad208, e208, hx208_0, hx208_1, hx208_2, hx208_3, hx208_4, hx208_5⟩ := at_T42 (Kd.R_reads' HO_14.out).2.2 x15_5 p208 q208
                   cases e208
                   replace p208 := eq_true p208
                   replace q208 := eq_true q208
                   go_wp2
                   repeat (go_quiet (fail); try go_wp2)
                   go_roundg k5
                   case measure => have := HJ4.out; have := HK2.out; have := HJ38.out; have := HJ47.out; have := HK5.out; omega
                   case rel => exact ⟨(wrap64 (x15_5 + 1)), (by first | rfl | (simp; done) | (simp [*]; done)), H', ⟨by have := HJ4.out; have := HK2.out; have := HJ38.out; have := HJ47.out; have := HK5.out; omega⟩, ⟨by (with_reducible repeat (first | apply Kd.R_alloc | apply Kd.R_drewN | apply Kd.R_drew)); exact HO_5.out⟩, ⟨by (with_reducible repeat (first | apply Kd.R_alloc | apply Kd.R_drewN | apply Kd.R_drew)); exact HO_14.out⟩, ⟨by repeat (first | (with_reducible first | exact HB.out | apply below_alloc | apply pw_below_drewN | apply below_drew1) | exact HB.out)⟩⟩
                 ·rw [if_neg c59] at H
                  exact absurd H (by simp)
                ·rw [if_neg c58] at H
                 have c58b0 : decide (x15_5 < (t199.length : Int)) = false := decide_eq_false c58
                 clear c58
                 obtain rfl := Option.some.inj H
                 obtain ⟨Ao72, co72, eo72⟩ := Kd.R_slice HO_14.out
                 subst eo72
                 go_wp2
                 repeat (go_quiet (fail); try go_wp2)
                 go_ret
                 exact ⟨by first | rfl | (simp [errW_none, errW_some] <;> rfl) | (simp [*, errW_none, errW_some] <;> rfl), by repeat (first | (with_reducible first | exact HB.out | apply below_alloc | apply pw_below_drewN | apply below_drew1) | exact HB.out)⟩
 ·replace c4 := Bool.eq_false_iff.mpr c4
  subst c4
  have H1 : (some false) = some r := by rw [if_neg (show ¬ (false = true) by decide)] at H; exact H
  clear H
  have H := H1
  clear H1
  obtain rfl := Option.some.inj H
  go_enter Try.func5, Try.ntmps5
  go_wp2_with (first | (go_at_call 10; (with_reducible refine (plenumlaw42_awake.calls k  false _ A3.out).mono ?_); rintro e w73 ⟨rfl, hb⟩; have n0_ := Aside0.mk (below_step (by repeat (first | (with_reducible first | exact HB.out | apply below_alloc | apply pw_below_drewN | apply below_drew1) | exact HB.out)) hb); clear HB; have HB := n0_; clear n0_; (try clear hb); (try clear hb2); (try clear hk); (try clear hi)))
  repeat (go_quiet (first | (go_at_call 10; (with_reducible refine (plenumlaw42_awake.calls k  false _ A3.out).mono ?_); rintro e w73 ⟨rfl, hb⟩; have n0_ := Aside0.mk (below_step (by repeat (first | (with_reducible first | exact HB.out | apply below_alloc | apply pw_below_drewN | apply below_drew1) | exact HB.out)) hb); clear HB; have HB := n0_; clear n0_; (try clear hb); (try clear hb2); (try clear hk); (try clear hi))); try go_wp2_with (first | (go_at_call 10; (with_reducible refine (plenumlaw42_awake.calls k  false _ A3.out).mono ?_); rintro e w73 ⟨rfl, hb⟩; have n0_ := Aside0.mk (below_step (by repeat (first | (with_reducible first | exact HB.out | apply below_alloc | apply pw_below_drewN | apply below_drew1) | exact HB.out)) hb); clear HB; have HB := n0_; clear n0_; (try clear hb); (try clear hb2); (try clear hk); (try clear hi))))
  go_ret
  exact ⟨by first | rfl | (simp [errW_none, errW_some] <;> rfl) | (simp [*, errW_none, errW_some] <;> rfl), by repeat (first | (with_reducible first | exact HB.out | apply below_alloc | apply pw_below_drewN | apply below_drew1) | exact HB.out)⟩

end Go.Proofs.Yteclemahimldeaa.C
