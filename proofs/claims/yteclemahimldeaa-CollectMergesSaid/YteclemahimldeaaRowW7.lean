/- The statement CollectMergesSaid: for every input the law CollectMerges returns true; each argument reads afterwards as it did. -/
import Derived.Test.YteclemahimldeaaRows
import Derived.Test.YteclemahimldeaaWR
import Derived.WalkKit
import Derived.ProofKit
import Derived.OpenShut
import Derived.ShutString
import Derived.ChangeOld
import Derived.Below
import Derived.Carry
import Derived.SizedLaws
set_option linter.unusedVariables false
set_option linter.unusedSimpArgs false
namespace Go.Proofs.Yteclemahimldeaa.RowCollectMerges
open Go.ChangeShapes Go.WideShapes Go.ChangeAt Go.RowKit Go.Eng Go.Eng.N
open Go.ChangeMaps (open_string shut_string)
theorem own : ownKnob Try.prog.godebug = none := by kernel_rfl
theorem laidOut : laidOutB Try.prog = true := by kernel_rfl
set_option maxRecDepth 100000 in
theorem lifted (os : Os) (started : os.Started) (H : Type) (enc : TypeId × Value → H) :
    ReturnsInHanded {} Try.checked os 7 .any (Rows.collectMergesSpec.pre6 enc Try.prog Try.f7 Rows.collectMergesRow.domain false) (Rows.collectMergesSpec.post enc Try.prog Try.f7 false true false false) := by
  refine returnsInHanded_of_change_sized (C := Try.checked) own started (by kernel_rfl) Try.func7
    (ChangeSpec.witness6 (enc := enc) (C := Try.checked) false ⟨#[], #[.slice none 0 0, .slice none 0 0], []⟩ 8 (by kernel_rfl) (by kernel_rfl) (by kernel_rfl) (by kernel_rfl)) ?_
  intro W base args ds gs before hval0 hW hcnd hsz0 _
  have hsz : (DataW.weightsEach Try.prog (Try.f7.params.toList ++ Rows.collectMergesSpec.plain.varTypes Try.prog) (ds ++ gs)).all (· ≤ reachBytes) = true := hsz0
  have hval : ∀ (j : Nat) t v, Try.f7.params[j]? = some t → args[j]? = some v → Value.okWide Try.prog W .any base t v := hval0
  have hW' := hW
  obtain ⟨p, q, hA0, hV0, rfl, hfz, hnd⟩ := hW
  have hA : DataW.TrodAll enc Try.prog W 0 (fun _ => true) true Try.f7.params.toList args.toList ds p := hA0
  have hV : DataW.TrodVars enc Try.prog W (fun _ => true) [] gs q := hV0
  rw [Try.params7] at hA hval hsz
  obtain ⟨v0, vs0, d0, ds0, p0, q0, hargs, rfl, rfl, h0, r0⟩ := trodAll_cons hA
  obtain ⟨v1, vs1, d1, ds1, p1, q1, rfl, rfl, rfl, h1, r1⟩ := trodAll_cons r0
  obtain ⟨rfl, rfl, rfl⟩ := trodAll_nil r1
  obtain rfl : args = #[v0, v1] := by cases args; simp_all
  obtain ⟨rfl, rfl⟩ := trodVars_none hV
  have t0 := h0
  have lt0 : ∀ x ∈ p0, x.block < W.heap.size := by obtain ⟨m, hm⟩ := t0; exact DataW.trod_lt m _ _ _ hm
  obtain ⟨A0, len0, cap0, rfl⟩ := okWide_slice Try.underlying27 (hval 0 27 v0 rfl rfl)
  obtain ⟨x0, k0, w0⟩ := Rd.arg rdRecs h0 hsz (j := 0) rfl rfl
  have t1 := h1
  have lt1 : ∀ x ∈ p1, x.block < W.heap.size := by obtain ⟨m, hm⟩ := t1; exact DataW.trod_lt m _ _ _ hm
  obtain ⟨A1, len1, cap1, rfl⟩ := okWide_slice Try.underlying27 (hval 1 27 v1 rfl rfl)
  obtain ⟨x1, k1, w1⟩ := Rd.arg rdRecs h1 hsz (j := 1) rfl rfl
  have hG : GlobOk glob (old W) W := fun g cs hg => by cases hg
  clear hA0 hval0 hsz0 hsz hV0 hV
  have hp : f7_G [.w (.one (.p (.sl 6 (x0.map Rec.c) false))), .w (.one (.p (.sl 6 (x1.map Rec.c) false)))] [] (fun r _ => r = B true) := by
    have e : f7_G [.w (.one (.p (.sl 6 (x0.map Rec.c) false))), .w (.one (.p (.sl 6 (x1.map Rec.c) false)))] [] (fun r _ => r = B true) = f7 (x0.map Rec.c) (false) (x1.map Rec.c) (false) (fun b => B b = B true) := by kernel_rfl
    rw [e]
    exact f7_ok rfl
  have hr : RepVs (old W) [] [] W [.w (.one (.p (.sl 6 (x0.map Rec.c) false))), .w (.one (.p (.sl 6 (x1.map Rec.c) false)))] [.slice A0 len0 cap0, .slice A1 len1 cap1] := ⟨k0.1, ⟨k1.1, trivial⟩⟩
  refine (run_of f7_G_ok hG (vs := #[.slice A0 len0 cap0, .slice A1 len1 cap1]) hr hp).mono fun e W' ⟨he, bel⟩ => ?_
  subst he
  exact ⟨_, rfl, _, _, _, [], _, [], hW', trodAll_mk1 (shut_bool Try.underlying4 _), (trodAll_cons_mk (Below.trod laidOut (by kernel_rfl) (of_decide_eq_true (by kernel_rfl)) t0 bel lt0) (trodAll_cons_mk (Below.trod laidOut (by kernel_rfl) (of_decide_eq_true (by kernel_rfl)) t1 bel lt1) trodAll_mk0)), rfl, bel.frame _, fun h => by cases h⟩
theorem over : Rows.collectMergesRow.holds Try.pinned (OpenSpec.ofChange Rows.collectMergesSpec) :=
  OpenClaim.holds_of_wide 7 Try.f7 rfl rfl rfl rfl rfl rfl rfl ⟨rfl, rfl, rfl, rfl, rfl⟩ rfl rfl rfl rfl rfl (by kernel_rfl) Try.func7 (by kernel_rfl)
    (of_decide_eq_true (by kernel_rfl)) (by unfold Func.isWrapper; first | (rw [if_pos (by decide +kernel)]; kernel_rfl) | (rw [if_neg (by decide +kernel)]; exact ⟨rfl, rfl⟩) | (rw [if_neg (of_decide_eq_false (by kernel_rfl))]; exact ⟨rfl, rfl⟩))
    (fun os started H enc _ => lifted os started H enc)
end Go.Proofs.Yteclemahimldeaa.RowCollectMerges
namespace Go.Proofs.Yteclemahimldeaa
open Go
/-- The row. -/
theorem collectMerges_holds : Rows.CollectMergesSaid := RowCollectMerges.over
#print axioms collectMerges_holds
end Go.Proofs.Yteclemahimldeaa
