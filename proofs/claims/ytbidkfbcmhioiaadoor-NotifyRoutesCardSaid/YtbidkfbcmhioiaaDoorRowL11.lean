/- The statement NotifyRoutesCardSaid: for every input the law NotifyRoutes returns true; each argument reads afterwards as it did. Condition: the package's tables of words start as the program's text lays them (the card ties it). -/
import Derived.Test.YtbidkfbcmhioiaaDoorRows
import Derived.Test.YtbidkfbcmhioiaaDoorTie
import Derived.Test.YtbidkfbcmhioiaaDoorCards
import Derived.Test.YtbidkfbcmhioiaaDoorPRR
import Derived.WalkKit
import Derived.ProofKit
import Derived.OpenShut
import Derived.ShutString
import Derived.ChangeOld
import Derived.Below
import Derived.Carry
import Derived.SizedLaws
import Derived.LaidLaws
import Derived.SevenTiedAt
import Derived.Stop.Joined
import Derived.Lay
set_option linter.unusedVariables false
set_option linter.unusedSimpArgs false
namespace Go.Proofs.YtbidkfbcmhioiaaDoor.RowNotifyRoutes
open Go.ChangeShapes Go.WideShapes Go.ChangeAt Go.RowKit Go.Eng Go.Eng.N
open Go.ChangeMaps (open_string shut_string)
theorem own : ownKnob Tryd.prog.godebug = none := by kernel_rfl
theorem laidOut : laidOutB Tryd.prog = true := by kernel_rfl
set_option maxRecDepth 100000 in
theorem lifted (os : Os) (started : os.Started) (H : Type) (enc : TypeId × Value → H) :
    ReturnsInHanded {} Tryd.checked os 11 .any (fun w args => (Rows.notifyRoutesSpec.pre enc Tryd.prog Tryd.f11 [] false w args ∧ laidMet Tryd.prog laidL w) ∧ sizedMet enc Tryd.prog Tryd.f11 (OpenSpec.ofChange Rows.notifyRoutesSpec) false w args)
      (Rows.notifyRoutesSpec.post enc Tryd.prog Tryd.f11 false true false false) := by
  refine returnsInHanded_of_change_and (C := Tryd.checked) (X := fun w _ => laidMet Tryd.prog laidL w) (fun _ _ _ hh h => h.of_heap hh) own started (by kernel_rfl) Tryd.func11
    (ChangeSpec.witness_shaped (enc := enc) (C := Tryd.checked) (os := os) (X := fun w _ => laidMet Tryd.prog laidL w) false (World.laidAll Tryd.prog os laidL) #[.slice none 0 0, .slice none 0 0, .slice none 0 0] 8 (World.laidAll_os _ _ _) (World.shaped_of_ZipB (by kernel_rfl) (by kernel_rfl)) (by kernel_rfl) (by kernel_rfl) (by kernel_rfl) (laidMet_laidAll _ (by kernel_rfl) (by kernel_rfl))) ?_
  intro W base args ds gs before hval0 hW _ hsz0 hL _
  have hsz : (DataW.weightsEach Tryd.prog (Tryd.f11.params.toList ++ Rows.notifyRoutesSpec.plain.varTypes Tryd.prog) (ds ++ gs)).all (· ≤ reachBytes) = true := hsz0
  have hval : ∀ (j : Nat) t v, Tryd.f11.params[j]? = some t → args[j]? = some v → Value.okWide Tryd.prog W .any base t v := hval0
  have hW' := hW
  obtain ⟨p, q, hA0, hV0, rfl, hfz, hnd⟩ := hW
  have hA : DataW.TrodAll enc Tryd.prog W 0 (fun _ => true) true Tryd.f11.params.toList args.toList ds p := hA0
  have hV : DataW.TrodVars enc Tryd.prog W (fun _ => true) [] gs q := hV0
  rw [Tryd.params11] at hA hval hsz
  obtain ⟨v0, vs0, d0, ds0, p0, q0, hargs, rfl, rfl, h0, r0⟩ := trodAll_cons hA
  obtain ⟨v1, vs1, d1, ds1, p1, q1, rfl, rfl, rfl, h1, r1⟩ := trodAll_cons r0
  obtain ⟨v2, vs2, d2, ds2, p2, q2, rfl, rfl, rfl, h2, r2⟩ := trodAll_cons r1
  obtain ⟨rfl, rfl, rfl⟩ := trodAll_nil r2
  obtain rfl : args = #[v0, v1, v2] := by cases args; simp_all
  obtain ⟨rfl, rfl⟩ := trodVars_none hV
  have t0 := h0
  have lt0 : ∀ x ∈ p0, x.block < W.heap.size := by obtain ⟨m, hm⟩ := t0; exact DataW.trod_lt m _ _ _ hm
  obtain ⟨A0, len0, cap0, rfl⟩ := okWide_slice Tryd.underlying78 (hval 0 78 v0 rfl rfl)
  obtain ⟨x0, k0, w0⟩ := Rd.arg rdCss h0 hsz (j := 0) rfl rfl
  have t1 := h1
  have lt1 : ∀ x ∈ p1, x.block < W.heap.size := by obtain ⟨m, hm⟩ := t1; exact DataW.trod_lt m _ _ _ hm
  obtain ⟨A1, len1, cap1, rfl⟩ := okWide_slice Tryd.underlying79 (hval 1 79 v1 rfl rfl)
  obtain ⟨x1, k1, w1⟩ := Rd.arg rdRus h1 hsz (j := 1) rfl rfl
  have t2 := h2
  have lt2 : ∀ x ∈ p2, x.block < W.heap.size := by obtain ⟨m, hm⟩ := t2; exact DataW.trod_lt m _ _ _ hm
  obtain ⟨A2, len2, cap2, rfl⟩ := okWide_slice Tryd.underlying80 (hval 2 80 v2 rfl rfl)
  obtain ⟨x2, k2, w2⟩ := Rd.arg rdEvs h2 hsz (j := 2) rfl rfl
  have hG := glob_ok hL
  clear hA0 hval0 hsz0 hsz hV0 hV
  have hp : f11_G [.w (.one (.p (PC.sl 4 (x0.map Cls.c) false))), .w (.one (.p (PC.sl 9 (x1.map Ru.c) false))), .w (.one (.p (PC.sl 7 (x2.map Ev.c) false)))] [] (fun r _ => r = B true) := by
    have e : f11_G [.w (.one (.p (PC.sl 4 (x0.map Cls.c) false))), .w (.one (.p (PC.sl 9 (x1.map Ru.c) false))), .w (.one (.p (PC.sl 7 (x2.map Ev.c) false)))] [] (fun r _ => r = B true) = f11 (x0.map Cls.c) (false) (x1.map Ru.c) (false) (x2.map Ev.c) (false) (fun b => B b = B true) := by kernel_rfl
    rw [e]
    exact f11_ok (csOk w0) (by have := w1.1; omega) rfl
  have hr : RepVs (old W) [] [] W [.w (.one (.p (PC.sl 4 (x0.map Cls.c) false))), .w (.one (.p (PC.sl 9 (x1.map Ru.c) false))), .w (.one (.p (PC.sl 7 (x2.map Ev.c) false)))] [.slice A0 len0 cap0, .slice A1 len1 cap1, .slice A2 len2 cap2] := ⟨k0.1, ⟨k1.1, ⟨k2.1, trivial⟩⟩⟩
  refine (run_of f11_G_ok hG (vs := #[.slice A0 len0 cap0, .slice A1 len1 cap1, .slice A2 len2 cap2]) hr hp).mono fun e W' ⟨he, bel⟩ => ?_
  subst he
  exact ⟨_, rfl, _, _, _, [], _, [], hW', trodAll_mk1 (shut_bool Tryd.underlying4 _), (trodAll_cons_mk (Below.trod laidOut (by kernel_rfl) (of_decide_eq_true (by kernel_rfl)) t0 bel lt0) (trodAll_cons_mk (Below.trod laidOut (by kernel_rfl) (of_decide_eq_true (by kernel_rfl)) t1 bel lt1) (trodAll_cons_mk (Below.trod laidOut (by kernel_rfl) (of_decide_eq_true (by kernel_rfl)) t2 bel lt2) trodAll_mk0))), rfl, bel.frame _, fun h => by cases h⟩
theorem over : Rows.notifyRoutesRow.holds Tryd.pinned (OpenSpec.ofChange Rows.notifyRoutesSpec) :=
  OpenClaim.holds_of_wide 11 Tryd.f11 rfl rfl rfl rfl rfl rfl rfl ⟨rfl, rfl, rfl, rfl, rfl⟩ rfl rfl rfl rfl rfl (by kernel_rfl) Tryd.func11 (by kernel_rfl)
    (of_decide_eq_true (by kernel_rfl)) (by unfold Func.isWrapper; first | (rw [if_pos (by decide +kernel)]; kernel_rfl) | (rw [if_neg (by decide +kernel)]; exact ⟨rfl, rfl⟩) | (rw [if_neg (of_decide_eq_false (by kernel_rfl))]; exact ⟨rfl, rfl⟩))
    (fun os started H enc _ => lifted os started H enc)
end Go.Proofs.YtbidkfbcmhioiaaDoor.RowNotifyRoutes
namespace Go.Proofs.YtbidkfbcmhioiaaDoor
open Go
/-- The card. -/
theorem notifyRoutes_holds : Rows.NotifyRoutesCardSaid :=
  Claim7.holds_tied_plain_at .later [] [.widerDeep, .widerDeep] true (true, "fb2af922b064a5c19b378919d66d942f6b5648a157a6cea855787ffe2a932d49") false
    RowNotifyRoutes.over (fun _ h => by cases h) (by kernel_rfl) (fun _ h => by cases h) notifyRoutes_row_tie rfl ⟨rfl, rfl⟩ (by kernel_rfl) rfl
    (fun f fn hf hfn => by
      obtain rfl : f = 11 := Option.some.inj ((show Tryd.prog.funcNamed "plenum/plenumlaw39.NotifyRoutes" = some 11 by kernel_rfl).symm.trans hf) |>.symm
      obtain rfl : fn = Tryd.f11 := (Option.some.inj (Tryd.func11.symm.trans hfn)).symm
      exact ⟨by kernel_rfl, fun j t ht => by
        rw [Tryd.params11] at ht
        have hm : t ∈ ([78, 79, 80] : List TypeId) := by
          have := List.mem_of_getElem? (l := ([78, 79, 80] : List TypeId)) (i := j) (by simpa using ht)
          exact this
        simp only [List.mem_cons, List.not_mem_nil, or_false] at hm
        rcases hm with rfl | rfl | rfl
        · exact (show Tryd.prog.wantsStandIn 78 = false by kernel_rfl)
        · exact (show Tryd.prog.wantsStandIn 79 = false by kernel_rfl)
        · exact (show Tryd.prog.wantsStandIn 80 = false by kernel_rfl)⟩)
    (by kernel_rfl)
#print axioms notifyRoutes_holds
end Go.Proofs.YtbidkfbcmhioiaaDoor
