/- The row of the law CollectComplete: for every input it returns true; each argument reads afterwards as it did. -/
import Derived.Test.YteclemahimldeaaRows
import Derived.Test.YteclemahimldeaaBr
import Derived.Test.YteclemahimldeaaCPU
import Derived.Test.YteclemahimldeaaCx8
import Derived.WalkKit
import Derived.ProofKit
import Derived.OpenShut
import Derived.ShutString
import Derived.ChangeOld
import Derived.Below
import Derived.SizedLaws
set_option linter.unusedVariables false
set_option linter.unusedSimpArgs false
namespace Go.Proofs.Yteclemahimldeaa.RowCollectComplete
open Go.ChangeShapes Go.WideShapes Go.ChangeAt Go.RowKit Go.Proofs.Yteclemahimldeaa.C Go.Proofs.YteclemahimldeaaW.PrintWords
open Go.ChangeMaps (open_string shut_string)
theorem own : ownKnob Try.prog.godebug = none := by kernel_rfl
theorem laidOut : laidOutB Try.prog = true := by kernel_rfl
def ok46 (x : S46) : Prop := (Lit.int .i64 x.f0).wf = true ∧ (Lit.int .i64 x.f1).wf = true
theorem rd46 : Br.Rd Try.prog 46 k46 ok46 :=
  Br.Rd.array (n := 2) (e := 3) (fs := [{ name := "", type := 3, offset := 0, embedded := false, tag := "", pkgPath := "", byteOffset := 0 }, { name := "", type := 3, offset := 1, embedded := false, tag := "", pkgPath := "", byteOffset := 8 }]) (fun x : S46 => (x.f0, x.f1)) (fun p => ⟨p.1, p.2⟩) (fun _ => rfl) (by kernel_rfl) (by kernel_rfl) rfl
    (fun i q hq => by
      match i, hq with
      | 0, hq => simp only [List.getElem?_cons_zero, Option.some.injEq] at hq; subst hq; exact ⟨rfl, by show (0 : Nat) = 0 * _; rw [Nat.zero_mul]⟩
      | 1, hq => simp only [List.getElem?_cons_succ, List.getElem?_cons_zero, Option.some.injEq] at hq; subst hq; exact ⟨rfl, by show (1 : Nat) = 1 * Try.prog.cellsOf 3; kernel_rfl⟩
      | i + 2, hq => simp at hq)
    (Br.RdP.cons rfl (by kernel_rfl) (Br.Rd.int Try.underlying3) (Br.RdP.one rfl (by kernel_rfl) (Br.Rd.int Try.underlying3)))
theorem rd43 : Br.Rd Try.prog 43 (Kd.slice 46 k46) (fun xs => xs.length * 16 ≤ 140737488351232 ∧ ∀ x ∈ xs, ok46 x) := Br.Rd.slice Try.underlying43 (by kernel_rfl) (B := 16) (by kernel_rfl) rd46
set_option maxRecDepth 100000 in
theorem lifted (os : Os) (started : os.Started) (H : Type) (enc : TypeId × Value → H) :
    ReturnsInHanded {} Try.checked os 5 .any (Rows.collectCompleteSpec.pre6 enc Try.prog Try.f5 Rows.collectCompleteRow.domain false) (Rows.collectCompleteSpec.post enc Try.prog Try.f5 false true false false) := by
  refine returnsInHanded_of_change_sized (C := Try.checked) own started (by kernel_rfl) Try.func5
    (ChangeSpec.witness6 (enc := enc) (C := Try.checked) false ⟨#[], #[.int .i64 0, .slice none 0 0], []⟩ 8 (by kernel_rfl) (by kernel_rfl) (by kernel_rfl) (by kernel_rfl)) ?_
  intro W base args ds gs before hval0 hW hcnd hsz0 _
  have hsz : (DataW.weightsEach Try.prog (Try.f5.params.toList ++ Rows.collectCompleteSpec.plain.varTypes Try.prog) (ds ++ gs)).all (· ≤ reachBytes) = true := hsz0
  have hval : ∀ (j : Nat) t v, Try.f5.params[j]? = some t → args[j]? = some v → Value.okWide Try.prog W .any base t v := hval0
  have hW' := hW
  obtain ⟨p, q, hA0, hV, rfl, hfz, hnd⟩ := hW
  have hA : DataW.TrodAll enc Try.prog W 0 (fun _ => true) true Try.f5.params.toList args.toList ds p := hA0
  rw [Try.params5] at hA hval hsz
  obtain ⟨v0, vs0, d0, ds0, p0, q0, hargs, rfl, rfl, h0, r0⟩ := trodAll_cons hA
  obtain ⟨v1, vs1, d1, ds1, p1, q1, rfl, rfl, rfl, h1, r1⟩ := trodAll_cons r0
  obtain ⟨rfl, rfl, rfl⟩ := trodAll_nil r1
  obtain rfl : args = #[v0, v1] := by cases args; simp_all
  obtain ⟨rfl, rfl⟩ := trodVars_none hV
  obtain ⟨a0, rfl, rfl, rfl, w0⟩ := open_int Try.underlying3 (hval 0 3 v0 rfl rfl) h0
  have t1 := h1
  have lt1 : ∀ x ∈ p1, x.block < W.heap.size := by obtain ⟨m, hm⟩ := t1; exact DataW.trod_lt m _ _ _ hm
  obtain ⟨A1, len1, cap1, rfl⟩ := okWide_slice Try.underlying43 (hval 1 43 v1 rfl rfl)
  obtain ⟨a1, k1, w1⟩ := Br.Rd.arg rd43 h1 hsz (j := 1) rfl rfl
  obtain ⟨A1', c1, e1, hc1, hr1⟩ : ∃ A c, (Value.slice A1 len1 cap1) = .slice A a1.length c ∧ a1.length ≤ c ∧ Kd.C k46 W A a1.length a1 := by
    obtain ⟨A, c, e, h1, h2⟩ := k1
    exact ⟨A, c, by simpa [Value.cells] using e, h1, h2⟩
  obtain ⟨rfl, rfl, rfl⟩ : A1 = A1' ∧ len1 = a1.length ∧ cap1 = c1 := by simpa using e1
  clear e1
  clear hA0 hval0 hsz0 hsz
  obtain ⟨k, hp⟩ := (fun n _ a _ => ⟨30000, PTC.CollectComplete n a 30000 (Nat.le_refl _)⟩ : ∀ (n : Int) (_ : (Lit.int .i64 n).wf = true) (a : List S46), _ → ∃ k, plenumlaw42_CollectComplete.f k n a = some true) a0 w0 a1 w1
  refine (plenumlaw42_CollectComplete.calls k a0 _ _ a1 true W hr1 hc1 hp).mono fun e W' ⟨he, bel⟩ => ?_
  subst he
  exact ⟨_, rfl, _, _, _, [], _, [], hW', trodAll_mk1 (shut_bool Try.underlying4 _), (trodAll_cons_mk (shut_int Try.underlying3 w0) (trodAll_cons_mk (Below.trod laidOut (by kernel_rfl) (of_decide_eq_true (by kernel_rfl)) t1 bel lt1) trodAll_mk0)), rfl, bel.frame _, fun h => by cases h⟩
theorem over : Rows.collectCompleteRow.holds Try.pinned (OpenSpec.ofChange Rows.collectCompleteSpec) :=
  OpenClaim.holds_of_wide 5 Try.f5 rfl rfl rfl rfl rfl rfl rfl ⟨rfl, rfl, rfl, rfl, rfl⟩ rfl rfl rfl rfl rfl (by kernel_rfl) Try.func5 (by kernel_rfl)
    (of_decide_eq_true (by kernel_rfl)) (by unfold Func.isWrapper; first | (rw [if_pos (by decide +kernel)]; kernel_rfl) | (rw [if_neg (by decide +kernel)]; exact ⟨rfl, rfl⟩))
    (fun os started H enc _ => lifted os started H enc)
end Go.Proofs.Yteclemahimldeaa.RowCollectComplete
namespace Go.Proofs.Yteclemahimldeaa
/-- The row. -/
theorem collectComplete_holds : Rows.CollectCompleteSaid := RowCollectComplete.over
#print axioms collectComplete_holds
end Go.Proofs.Yteclemahimldeaa
