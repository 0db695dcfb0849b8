/- The statement CollectAlgebraSaid: for every input the law CollectAlgebra returns true; each argument reads afterwards as it did. -/
import Derived.Test.YteclemahimldeaaRows
import Derived.Test.YteclemahimldeaaWR
import Derived.WalkKit
import Derived.ProofKit
import Derived.OpenShut
import Derived.ShutString
import Derived.ChangeOld
import Derived.Below
import Derived.Carry
import Derived.SizedLaws
set_option linter.unusedVariables false
set_option linter.unusedSimpArgs false
namespace Go.Proofs.Yteclemahimldeaa.RowCollectAlgebra
open Go.ChangeShapes Go.WideShapes Go.ChangeAt Go.RowKit Go.Eng Go.Eng.N
open Go.ChangeMaps (open_string shut_string)
theorem own : ownKnob Try.prog.godebug = none := by kernel_rfl
theorem laidOut : laidOutB Try.prog = true := by kernel_rfl
set_option maxRecDepth 100000 in
theorem lifted (os : Os) (started : os.Started) (H : Type) (enc : TypeId × Value → H) :
    ReturnsInHanded {} Try.checked os 8 .any (Rows.collectAlgebraSpec.pre6 enc Try.prog Try.f8 Rows.collectAlgebraRow.domain false) (Rows.collectAlgebraSpec.post enc Try.prog Try.f8 false true false false) := by
  refine returnsInHanded_of_change_sized (C := Try.checked) own started (by kernel_rfl) Try.func8
    (ChangeSpec.witness6 (enc := enc) (C := Try.checked) false ⟨#[], #[.slice none 0 0, .slice none 0 0, .slice none 0 0], []⟩ 8 (by kernel_rfl) (by kernel_rfl) (by kernel_rfl) (by kernel_rfl)) ?_
  intro W base args ds gs before hval0 hW hcnd hsz0 _
  have hsz : (DataW.weightsEach Try.prog (Try.f8.params.toList ++ Rows.collectAlgebraSpec.plain.varTypes Try.prog) (ds ++ gs)).all (· ≤ reachBytes) = true := hsz0
  have hval : ∀ (j : Nat) t v, Try.f8.params[j]? = some t → args[j]? = some v → Value.okWide Try.prog W .any base t v := hval0
  have hW' := hW
  obtain ⟨p, q, hA0, hV0, rfl, hfz, hnd⟩ := hW
  have hA : DataW.TrodAll enc Try.prog W 0 (fun _ => true) true Try.f8.params.toList args.toList ds p := hA0
  have hV : DataW.TrodVars enc Try.prog W (fun _ => true) [] gs q := hV0
  rw [Try.params8] at hA hval hsz
  obtain ⟨v0, vs0, d0, ds0, p0, q0, hargs, rfl, rfl, h0, r0⟩ := trodAll_cons hA
  obtain ⟨v1, vs1, d1, ds1, p1, q1, rfl, rfl, rfl, h1, r1⟩ := trodAll_cons r0
  obtain ⟨v2, vs2, d2, ds2, p2, q2, rfl, rfl, rfl, h2, r2⟩ := trodAll_cons r1
  obtain ⟨rfl, rfl, rfl⟩ := trodAll_nil r2
  obtain rfl : args = #[v0, v1, v2] := by cases args; simp_all
  obtain ⟨rfl, rfl⟩ := trodVars_none hV
  have t0 := h0
  have lt0 : ∀ x ∈ p0, x.block < W.heap.size := by obtain ⟨m, hm⟩ := t0; exact DataW.trod_lt m _ _ _ hm
  obtain ⟨A0, len0, cap0, rfl⟩ := okWide_slice Try.underlying27 (hval 0 27 v0 rfl rfl)
  obtain ⟨x0, k0, w0⟩ := Rd.arg rdRecs h0 hsz (j := 0) rfl rfl
  have t1 := h1
  have lt1 : ∀ x ∈ p1, x.block < W.heap.size := by obtain ⟨m, hm⟩ := t1; exact DataW.trod_lt m _ _ _ hm
  obtain ⟨A1, len1, cap1, rfl⟩ := okWide_slice Try.underlying27 (hval 1 27 v1 rfl rfl)
  obtain ⟨x1, k1, w1⟩ := Rd.arg rdRecs h1 hsz (j := 1) rfl rfl
  have t2 := h2
  have lt2 : ∀ x ∈ p2, x.block < W.heap.size := by obtain ⟨m, hm⟩ := t2; exact DataW.trod_lt m _ _ _ hm
  obtain ⟨A2, len2, cap2, rfl⟩ := okWide_slice Try.underlying27 (hval 2 27 v2 rfl rfl)
  obtain ⟨x2, k2, w2⟩ := Rd.arg rdRecs h2 hsz (j := 2) rfl rfl
  have hG : GlobOk glob (old W) W := fun g cs hg => by cases hg
  clear hA0 hval0 hsz0 hsz hV0 hV
  have hp : f8_G [.w (.one (.p (.sl 6 (x0.map Rec.c) false))), .w (.one (.p (.sl 6 (x1.map Rec.c) false))), .w (.one (.p (.sl 6 (x2.map Rec.c) false)))] [] (fun r _ => r = B true) := by
    have e : f8_G [.w (.one (.p (.sl 6 (x0.map Rec.c) false))), .w (.one (.p (.sl 6 (x1.map Rec.c) false))), .w (.one (.p (.sl 6 (x2.map Rec.c) false)))] [] (fun r _ => r = B true) = f8 (x0.map Rec.c) (false) (x1.map Rec.c) (false) (x2.map Rec.c) (false) (fun b => B b = B true) := by kernel_rfl
    rw [e]
    exact f8_ok rfl
  have hr : RepVs (old W) [] [] W [.w (.one (.p (.sl 6 (x0.map Rec.c) false))), .w (.one (.p (.sl 6 (x1.map Rec.c) false))), .w (.one (.p (.sl 6 (x2.map Rec.c) false)))] [.slice A0 len0 cap0, .slice A1 len1 cap1, .slice A2 len2 cap2] := ⟨k0.1, ⟨k1.1, ⟨k2.1, trivial⟩⟩⟩
  refine (run_of f8_G_ok hG (vs := #[.slice A0 len0 cap0, .slice A1 len1 cap1, .slice A2 len2 cap2]) hr hp).mono fun e W' ⟨he, bel⟩ => ?_
  subst he
  exact ⟨_, rfl, _, _, _, [], _, [], hW', trodAll_mk1 (shut_bool Try.underlying4 _), (trodAll_cons_mk (Below.trod laidOut (by kernel_rfl) (of_decide_eq_true (by kernel_rfl)) t0 bel lt0) (trodAll_cons_mk (Below.trod laidOut (by kernel_rfl) (of_decide_eq_true (by kernel_rfl)) t1 bel lt1) (trodAll_cons_mk (Below.trod laidOut (by kernel_rfl) (of_decide_eq_true (by kernel_rfl)) t2 bel lt2) trodAll_mk0))), rfl, bel.frame _, fun h => by cases h⟩
theorem over : Rows.collectAlgebraRow.holds Try.pinned (OpenSpec.ofChange Rows.collectAlgebraSpec) :=
  OpenClaim.holds_of_wide 8 Try.f8 rfl rfl rfl rfl rfl rfl rfl ⟨rfl, rfl, rfl, rfl, rfl⟩ rfl rfl rfl rfl rfl (by kernel_rfl) Try.func8 (by kernel_rfl)
    (of_decide_eq_true (by kernel_rfl)) (by unfold Func.isWrapper; first | (rw [if_pos (by decide +kernel)]; kernel_rfl) | (rw [if_neg (by decide +kernel)]; exact ⟨rfl, rfl⟩) | (rw [if_neg (of_decide_eq_false (by kernel_rfl))]; exact ⟨rfl, rfl⟩))
    (fun os started H enc _ => lifted os started H enc)
end Go.Proofs.Yteclemahimldeaa.RowCollectAlgebra
namespace Go.Proofs.Yteclemahimldeaa
open Go
/-- The row. -/
theorem collectAlgebra_holds : Rows.CollectAlgebraSaid := RowCollectAlgebra.over
#print axioms collectAlgebra_holds
end Go.Proofs.Yteclemahimldeaa
