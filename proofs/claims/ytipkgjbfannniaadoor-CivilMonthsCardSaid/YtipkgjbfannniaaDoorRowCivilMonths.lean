/- The statement CivilMonthsCardSaid: for every input the law CivilMonths returns true; each argument reads afterwards as it did. Condition: plenum/civil.lengths starts as the program's text lays it (the card ties it). -/
import Derived.Test.YtipkgjbfannniaaDoorRows
import Derived.Test.YtipkgjbfannniaaDoorTie
import Derived.Test.YtipkgjbfannniaaDoorCards
import Derived.Test.YtipkgjbfannniaaDoorL
import Derived.Test.YtipkgjbfannniaaDoorBr
import Derived.Test.YtipkgjbfannniaaDoorQx11
import Derived.Test.YtipkgjbfannniaaDoorPureCivilMonths
import Derived.WalkKit
import Derived.ProofKit
import Derived.OpenShut
import Derived.ShutString
import Derived.ChangeOld
import Derived.Below
import Derived.SizedLaws
import Derived.LaidLaws
import Derived.SevenTiedAt
import Derived.Stop.Joined
set_option linter.unusedVariables false
set_option linter.unusedSimpArgs false
namespace Go.Proofs.YtipkgjbfannniaaDoor.CivilMonths
open Go.ChangeShapes Go.WideShapes Go.ChangeAt Go.RowKit Go.Proofs.YtipkgjbfannniaaDoor.L Go.Proofs.YtipkgjbfannniaaDoor.Q
open Go.ChangeMaps (open_string shut_string)

theorem own : ownKnob Tryd.prog.godebug = none := by kernel_rfl
theorem laidOut : laidOutB Tryd.prog = true := by kernel_rfl
abbrev kDate : YtipkgjbfannniaaDoorW.PrintWords.Kd (Int × Int × Int) := .iso (.pair (.int .i64) (.pair (.int .i64) (.int .i64))) (fun x => x)
theorem rdDate : Br.Rd Tryd.prog 23 kDate (fun x => ((Lit.int .i64 x.1).wf = true ∧ (Lit.int .i64 x.2.1).wf = true ∧ (Lit.int .i64 x.2.2).wf = true)) :=
  (Br.Rd.struct (fun x => x) (fun p => p) (fun _ => rfl) Tryd.underlying23 (by kernel_rfl)
    (Br.RdP.cons rfl (by kernel_rfl) (Br.Rd.int Tryd.underlying3) (Br.RdP.cons rfl (by kernel_rfl) (Br.Rd.int Tryd.underlying3) (Br.RdP.one rfl (by kernel_rfl) (Br.Rd.int Tryd.underlying3)))))
theorem kDate_open {w : World} {x : Int × Int × Int} {cs : List Value} (h : kDate.K w x cs) : cs = [.int .i64 x.1, .int .i64 x.2.1, .int .i64 x.2.2] := by
  obtain ⟨_, _, rfl, rfl, _, _, rfl, rfl, rfl⟩ := h
  rfl
set_option maxRecDepth 100000 in
theorem lifted (os : Os) (started : os.Started) (H : Type) (enc : TypeId × Value → H) :
    ReturnsInHanded {} Tryd.checked os 5 .any (fun w args => (Rows.civilMonthsSpec.pre enc Tryd.prog Tryd.f5 [] false w args ∧ laidMet Tryd.prog laidL w) ∧ sizedMet enc Tryd.prog Tryd.f5 (OpenSpec.ofChange Rows.civilMonthsSpec) false w args)
      (Rows.civilMonthsSpec.post enc Tryd.prog Tryd.f5 false true false false) := by
  refine returnsInHanded_of_change_and (C := Tryd.checked) (X := fun w _ => laidMet Tryd.prog laidL w) (fun _ _ _ hh h => h.of_heap hh) own started (by kernel_rfl) Tryd.func5
    (ChangeSpec.witness_at (enc := enc) (C := Tryd.checked) (os := os) (X := fun w _ => laidMet Tryd.prog laidL w) false (laidWorld os) #[.agg #[.int .i64 0, .int .i64 0, .int .i64 0], .int .i64 0] 8 rfl (by kernel_rfl) (by kernel_rfl) (by kernel_rfl) (by kernel_rfl) (by kernel_rfl) (laidWorld_met os _)) ?_
  intro W base args ds gs before hval0 hW _ hsz0 hL _
  have hsz : (DataW.weightsEach Tryd.prog (Tryd.f5.params.toList ++ Rows.civilMonthsSpec.plain.varTypes Tryd.prog) (ds ++ gs)).all (· ≤ reachBytes) = true := hsz0
  have hval : ∀ (j : Nat) t v, Tryd.f5.params[j]? = some t → args[j]? = some v → Value.okWide Tryd.prog W .any base t v := hval0
  have hW' := hW
  obtain ⟨p, q, hA0, hV0, rfl, hfz, hnd⟩ := hW
  have hA : DataW.TrodAll enc Tryd.prog W 0 (fun _ => true) true Tryd.f5.params.toList args.toList ds p := hA0
  have hV : DataW.TrodVars enc Tryd.prog W (fun _ => true) [] gs q := hV0
  rw [Tryd.params5] at hA hval hsz
  obtain ⟨v0, vs0, d0, ds0, p0, q0, hargs, rfl, rfl, h0, r0⟩ := trodAll_cons hA
  obtain ⟨v1, vs1, d1, ds1, p1, q1, rfl, rfl, rfl, h1, r1⟩ := trodAll_cons r0
  obtain ⟨rfl, rfl, rfl⟩ := trodAll_nil r1
  obtain rfl : args = #[v0, v1] := by cases args; simp_all
  have t0 := h0
  have lt0 : ∀ x ∈ p0, x.block < W.heap.size := by obtain ⟨m, hm⟩ := t0; exact DataW.trod_lt m _ _ _ hm
  obtain ⟨cs0, rfl, _⟩ := okWide_struct Tryd.underlying23 (hval 0 23 v0 rfl rfl)
  obtain ⟨x0, k0, w0⟩ := Br.Rd.arg rdDate h0 hsz (j := 0) rfl rfl
  obtain rfl : cs0 = #[.int .i64 x0.1, .int .i64 x0.2.1, .int .i64 x0.2.2] := by
    have z := kDate_open k0
    obtain ⟨l⟩ := cs0
    simpa [Value.cells] using z
  obtain ⟨a1, rfl, rfl, rfl, w1⟩ := open_int Tryd.underlying3 (hval 1 3 v1 rfl rfl) h1
  obtain ⟨rfl, rfl⟩ := trodVars_none hV
  have hLen := lenAt_of (cells_of_laid hL)
  clear hA0 hval0 hsz0 hsz hV0 hV
  obtain ⟨k, hp⟩ := Pure.CivilMonths x0.1 x0.2.1 x0.2.2 a1 w0.1 w0.2.1 w0.2.2 w1
  refine (plenumlaw05_CivilMonths.calls k x0.1 x0.2.1 x0.2.2 a1 true W hLen hp).mono fun e W' ⟨he, bel⟩ => ?_
  subst he
  exact ⟨_, rfl, _, _, _, [], _, [], hW', trodAll_mk1 (shut_bool Tryd.underlying4 _), (trodAll_cons_mk (Below.trod laidOut (by kernel_rfl) (of_decide_eq_true (by kernel_rfl)) t0 bel lt0) (trodAll_cons_mk (shut_int Tryd.underlying3 w1) trodAll_mk0)), rfl, bel.frame _, fun h => by cases h⟩
theorem over : Rows.civilMonthsRow.holds Tryd.pinned (OpenSpec.ofChange Rows.civilMonthsSpec) :=
  OpenClaim.holds_of_wide 5 Tryd.f5 rfl rfl rfl rfl rfl rfl rfl ⟨rfl, rfl, rfl, rfl, rfl⟩ rfl rfl rfl rfl rfl (by kernel_rfl) Tryd.func5 (by kernel_rfl)
    (of_decide_eq_true (by kernel_rfl)) (by unfold Func.isWrapper; rw [if_neg (of_decide_eq_false (by kernel_rfl))]; exact ⟨rfl, rfl⟩)
    (fun os started H enc _ => lifted os started H enc)
end Go.Proofs.YtipkgjbfannniaaDoor.CivilMonths
namespace Go.Proofs.YtipkgjbfannniaaDoor
open Go
/-- The card. -/
theorem civilMonths_holds : Rows.CivilMonthsCardSaid :=
  Claim7.holds_tied_plain_at .later [] [.data] true (true, "9b142f7f5fa68e61d350826e2d9ac492b756168d0199e8b142ebd740838a7eaf") false
    CivilMonths.over (fun _ h => by cases h) (by kernel_rfl) (fun _ h => by cases h) civilMonths_row_tie rfl ⟨rfl, rfl⟩ (by kernel_rfl) rfl
    (fun f fn hf hfn => by
      obtain rfl : f = 5 := Option.some.inj ((show Tryd.prog.funcNamed "plenum/plenumlaw05.CivilMonths" = some 5 by kernel_rfl).symm.trans hf) |>.symm
      obtain rfl : fn = Tryd.f5 := (Option.some.inj (Tryd.func5.symm.trans hfn)).symm
      exact ⟨by kernel_rfl, fun j t ht => by
        rw [Tryd.params5] at ht
        have hm : t ∈ ([23, 3] : List TypeId) := by
          have := List.mem_of_getElem? (l := ([23, 3] : List TypeId)) (i := j) (by simpa using ht)
          exact this
        simp only [List.mem_cons, List.not_mem_nil, or_false] at hm
        rcases hm with rfl | rfl
        · exact (show Tryd.prog.wantsStandIn 23 = false by kernel_rfl)
        · exact (show Tryd.prog.wantsStandIn 3 = false by kernel_rfl)⟩)
    (by kernel_rfl)
#print axioms civilMonths_holds
end Go.Proofs.YtipkgjbfannniaaDoor
