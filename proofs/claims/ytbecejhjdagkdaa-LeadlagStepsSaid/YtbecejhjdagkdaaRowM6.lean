/- The statement LeadlagStepsSaid: for every input the law LeadlagSteps returns true; each argument reads afterwards as it did. -/
import Derived.Test.YtbecejhjdagkdaaRows
import Derived.Test.YtbecejhjdagkdaaUR
import Derived.WalkKit
import Derived.ProofKit
import Derived.OpenShut
import Derived.ShutString
import Derived.ChangeOld
import Derived.Below
import Derived.Carry
import Derived.SizedLaws
set_option linter.unusedVariables false
set_option linter.unusedSimpArgs false
namespace Go.Proofs.Ytbecejhjdagkdaa.RowLeadlagSteps
open Go.ChangeShapes Go.WideShapes Go.ChangeAt Go.RowKit Go.Eng Go.Eng.N
open Go.ChangeMaps (open_string shut_string)
theorem own : ownKnob Try.prog.godebug = none := by kernel_rfl
theorem laidOut : laidOutB Try.prog = true := by kernel_rfl
set_option maxRecDepth 100000 in
theorem lifted (os : Os) (started : os.Started) (H : Type) (enc : TypeId × Value → H) :
    ReturnsInHanded {} Try.checked os 6 .any (Rows.leadlagStepsSpec.pre6 enc Try.prog Try.f6 Rows.leadlagStepsRow.domain false) (Rows.leadlagStepsSpec.post enc Try.prog Try.f6 false true false false) := by
  refine returnsInHanded_of_change_sized (C := Try.checked) own started (by kernel_rfl) Try.func6
    (ChangeSpec.witness6 (enc := enc) (C := Try.checked) false ⟨#[], #[.agg #[.int .i64 0, .int .i64 0], .agg #[.slice none 0 0, .int .i64 0, .int .i64 0], .int .i64 0, .slice none 0 0, .int .i64 0], []⟩ 8 (by kernel_rfl) (by kernel_rfl) (by kernel_rfl) (by kernel_rfl)) ?_
  intro W base args ds gs before hval0 hW hcnd hsz0 _
  have hsz : (DataW.weightsEach Try.prog (Try.f6.params.toList ++ Rows.leadlagStepsSpec.plain.varTypes Try.prog) (ds ++ gs)).all (· ≤ reachBytes) = true := hsz0
  have hval : ∀ (j : Nat) t v, Try.f6.params[j]? = some t → args[j]? = some v → Value.okWide Try.prog W .any base t v := hval0
  have hW' := hW
  obtain ⟨p, q, hA0, hV0, rfl, hfz, hnd⟩ := hW
  have hA : DataW.TrodAll enc Try.prog W 0 (fun _ => true) true Try.f6.params.toList args.toList ds p := hA0
  have hV : DataW.TrodVars enc Try.prog W (fun _ => true) [] gs q := hV0
  rw [Try.params6] at hA hval hsz
  obtain ⟨v0, vs0, d0, ds0, p0, q0, hargs, rfl, rfl, h0, r0⟩ := trodAll_cons hA
  obtain ⟨v1, vs1, d1, ds1, p1, q1, rfl, rfl, rfl, h1, r1⟩ := trodAll_cons r0
  obtain ⟨v2, vs2, d2, ds2, p2, q2, rfl, rfl, rfl, h2, r2⟩ := trodAll_cons r1
  obtain ⟨v3, vs3, d3, ds3, p3, q3, rfl, rfl, rfl, h3, r3⟩ := trodAll_cons r2
  obtain ⟨v4, vs4, d4, ds4, p4, q4, rfl, rfl, rfl, h4, r4⟩ := trodAll_cons r3
  obtain ⟨rfl, rfl, rfl⟩ := trodAll_nil r4
  obtain rfl : args = #[v0, v1, v2, v3, v4] := by cases args; simp_all
  obtain ⟨rfl, rfl⟩ := trodVars_none hV
  have t0 := h0
  have lt0 : ∀ x ∈ p0, x.block < W.heap.size := by obtain ⟨m, hm⟩ := t0; exact DataW.trod_lt m _ _ _ hm
  obtain ⟨cs0, rfl, _⟩ := okWide_struct Try.underlying23 (hval 0 23 v0 rfl rfl)
  obtain ⟨x0, k0, w0⟩ := Rd.arg rdRule h0 hsz (j := 0) rfl rfl
  have t1 := h1
  have lt1 : ∀ x ∈ p1, x.block < W.heap.size := by obtain ⟨m, hm⟩ := t1; exact DataW.trod_lt m _ _ _ hm
  obtain ⟨cs1, rfl, _⟩ := okWide_struct Try.underlying26 (hval 1 26 v1 rfl rfl)
  obtain ⟨x1, k1, w1⟩ := Rd.arg rdSs h1 hsz (j := 1) rfl rfl
  have t2 := h2
  have lt2 : ∀ x ∈ p2, x.block < W.heap.size := by obtain ⟨m, hm⟩ := t2; exact DataW.trod_lt m _ _ _ hm
  obtain ⟨x2, rfl, rfl, rfl, w2⟩ := open_int Try.underlying3 (hval 2 3 v2 rfl rfl) h2
  have t3 := h3
  have lt3 : ∀ x ∈ p3, x.block < W.heap.size := by obtain ⟨m, hm⟩ := t3; exact DataW.trod_lt m _ _ _ hm
  obtain ⟨A3, len3, cap3, rfl⟩ := okWide_slice Try.underlying64 (hval 3 64 v3 rfl rfl)
  obtain ⟨x3, k3, w3⟩ := Rd.arg rdBs h3 hsz (j := 3) rfl rfl
  have t4 := h4
  have lt4 : ∀ x ∈ p4, x.block < W.heap.size := by obtain ⟨m, hm⟩ := t4; exact DataW.trod_lt m _ _ _ hm
  obtain ⟨x4, rfl, rfl, rfl, w4⟩ := open_int Try.underlying3 (hval 4 3 v4 rfl rfl) h4
  have hG : GlobOk glob (old W) W := fun g cs hg => by cases hg
  clear hA0 hval0 hsz0 hsz hV0 hV
  have hp : f6_G [.w (.pagg ((fun p : Int × Int => [pI p.1, pI p.2]) x0)), .w (.pagg (sc x1)), I x2, .w (.one (.p (.sl 1 (x3.map fbc) false))), I x4] [] (fun r _ => r = B true) := by
    have e : f6_G [.w (.pagg ((fun p : Int × Int => [pI p.1, pI p.2]) x0)), .w (.pagg (sc x1)), I x2, .w (.one (.p (.sl 1 (x3.map fbc) false))), I x4] [] (fun r _ => r = B true) = f6 (x0.1) (x0.2) (x1.us.map Un.c) (false) (x1.st) (x1.tu) (x2) (x3.map fbc) (false) (x4) (fun b => B b = B true) := by kernel_rfl
    rw [e]
    exact f6_ok rfl
  have hr : RepVs (old W) [] [] W [.w (.pagg ((fun p : Int × Int => [pI p.1, pI p.2]) x0)), .w (.pagg (sc x1)), I x2, .w (.one (.p (.sl 1 (x3.map fbc) false))), I x4] [.agg cs0, .agg cs1, .int .i64 x2, .slice A3 len3 cap3, .int .i64 x4] := ⟨⟨cs0, rfl, k0⟩, ⟨⟨cs1, rfl, k1⟩, ⟨RepC.c _ rfl, ⟨k3.1, ⟨RepC.c _ rfl, trivial⟩⟩⟩⟩⟩
  refine (run_of f6_G_ok hG (vs := #[.agg cs0, .agg cs1, .int .i64 x2, .slice A3 len3 cap3, .int .i64 x4]) hr hp).mono fun e W' ⟨he, bel⟩ => ?_
  subst he
  exact ⟨_, rfl, _, _, _, [], _, [], hW', trodAll_mk1 (shut_bool Try.underlying4 _), (trodAll_cons_mk (Below.trod laidOut (by kernel_rfl) (of_decide_eq_true (by kernel_rfl)) t0 bel lt0) (trodAll_cons_mk (Below.trod laidOut (by kernel_rfl) (of_decide_eq_true (by kernel_rfl)) t1 bel lt1) (trodAll_cons_mk (shut_int Try.underlying3 w2) (trodAll_cons_mk (Below.trod laidOut (by kernel_rfl) (of_decide_eq_true (by kernel_rfl)) t3 bel lt3) (trodAll_cons_mk (shut_int Try.underlying3 w4) trodAll_mk0))))), rfl, bel.frame _, fun h => by cases h⟩
theorem over : Rows.leadlagStepsRow.holds Try.pinned (OpenSpec.ofChange Rows.leadlagStepsSpec) :=
  OpenClaim.holds_of_wide 6 Try.f6 rfl rfl rfl rfl rfl rfl rfl ⟨rfl, rfl, rfl, rfl, rfl⟩ rfl rfl rfl rfl rfl (by kernel_rfl) Try.func6 (by kernel_rfl)
    (of_decide_eq_true (by kernel_rfl)) (by unfold Func.isWrapper; first | (rw [if_pos (by decide +kernel)]; kernel_rfl) | (rw [if_neg (by decide +kernel)]; exact ⟨rfl, rfl⟩) | (rw [if_neg (of_decide_eq_false (by kernel_rfl))]; exact ⟨rfl, rfl⟩))
    (fun os started H enc _ => lifted os started H enc)
end Go.Proofs.Ytbecejhjdagkdaa.RowLeadlagSteps
namespace Go.Proofs.Ytbecejhjdagkdaa
open Go
/-- The row. -/
theorem leadlagSteps_holds : Rows.LeadlagStepsSaid := RowLeadlagSteps.over
#print axioms leadlagSteps_holds
end Go.Proofs.Ytbecejhjdagkdaa
