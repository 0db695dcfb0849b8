/- The row of the law CollectChecks: for every input it returns true; each argument reads afterwards as it did. -/
import Derived.Test.YteclemahimldeaaRows
import Derived.Test.YteclemahimldeaaBr
import Derived.Test.YteclemahimldeaaKPU
import Derived.Test.YteclemahimldeaaKx10
import Derived.WalkKit
import Derived.ProofKit
import Derived.OpenShut
import Derived.ShutString
import Derived.ChangeOld
import Derived.Below
import Derived.SizedLaws
set_option linter.unusedVariables false
set_option linter.unusedSimpArgs false
namespace Go.Proofs.Yteclemahimldeaa.RowCollectChecks
open Go.ChangeShapes Go.WideShapes Go.ChangeAt Go.RowKit Go.Proofs.Yteclemahimldeaa.K Go.Proofs.YteclemahimldeaaW.PrintWords
open Go.ChangeMaps (open_string shut_string)
theorem own : ownKnob Try.prog.godebug = none := by kernel_rfl
theorem laidOut : laidOutB Try.prog = true := by kernel_rfl
def ok42 (x : S42) : Prop := (Lit.int .i64 x.f0).wf = true ∧ (Lit.int .i64 x.f1).wf = true ∧ ((Lit.int .i64 x.f2.f0).wf = true ∧ (Lit.int .i64 x.f2.f1).wf = true) ∧ (Lit.int .i64 x.f3).wf = true ∧ (Lit.int .i64 x.f4).wf = true
def okL (xs : List S42) : Prop := xs.length * 48 ≤ 140737488351232 ∧ ∀ x ∈ xs, ok42 x
theorem rd40 : Br.Rd Try.prog 40 k40 (fun x => (Lit.int .i64 x.f0).wf = true ∧ (Lit.int .i64 x.f1).wf = true) :=
  (Br.Rd.struct (fun x : S40 => (x.f0, x.f1)) (fun p => ⟨p.1, p.2⟩) (fun _ => rfl) Try.underlying40 (by kernel_rfl) (Br.RdP.cons rfl (by kernel_rfl) (Br.Rd.int Try.underlying3) (Br.RdP.one rfl (by kernel_rfl) (Br.Rd.int (by kernel_rfl)))))
theorem rd42 : Br.Rd Try.prog 42 k42 ok42 :=
  (Br.Rd.struct (fun x : S42 => (x.f0, x.f1, x.f2, x.f3, x.f4)) (fun p => ⟨p.1, p.2.1, p.2.2.1, p.2.2.2.1, p.2.2.2.2⟩) (fun _ => rfl) Try.underlying42 (by kernel_rfl) (Br.RdP.cons rfl (by kernel_rfl) (Br.Rd.int Try.underlying3) (Br.RdP.cons rfl (by kernel_rfl) (Br.Rd.int Try.underlying3) (Br.RdP.cons rfl (by kernel_rfl) rd40 (Br.RdP.cons rfl (by kernel_rfl) (Br.Rd.int Try.underlying3) (Br.RdP.one rfl (by kernel_rfl) (Br.Rd.int Try.underlying3)))))))
theorem rd27 : Br.Rd Try.prog 27 (Kd.slice 42 k42) okL := Br.Rd.slice Try.underlying27 (by kernel_rfl) (B := 48) (by kernel_rfl) rd42
set_option maxRecDepth 100000 in
theorem lifted (os : Os) (started : os.Started) (H : Type) (enc : TypeId × Value → H) :
    ReturnsInHanded {} Try.checked os 9 .any (Rows.collectChecksSpec.pre6 enc Try.prog Try.f9 Rows.collectChecksRow.domain false) (Rows.collectChecksSpec.post enc Try.prog Try.f9 false true false false) := by
  refine returnsInHanded_of_change_sized (C := Try.checked) own started (by kernel_rfl) Try.func9
    (ChangeSpec.witness6 (enc := enc) (C := Try.checked) false ⟨#[], #[.slice none 0 0], []⟩ 8 (by kernel_rfl) (by kernel_rfl) (by kernel_rfl) (by kernel_rfl)) ?_
  intro W base args ds gs before hval0 hW hcnd hsz0 _
  have hsz : (DataW.weightsEach Try.prog (Try.f9.params.toList ++ Rows.collectChecksSpec.plain.varTypes Try.prog) (ds ++ gs)).all (· ≤ reachBytes) = true := hsz0
  have hval : ∀ (j : Nat) t v, Try.f9.params[j]? = some t → args[j]? = some v → Value.okWide Try.prog W .any base t v := hval0
  have hW' := hW
  obtain ⟨p, q, hA0, hV, rfl, hfz, hnd⟩ := hW
  have hA : DataW.TrodAll enc Try.prog W 0 (fun _ => true) true Try.f9.params.toList args.toList ds p := hA0
  rw [Try.params9] at hA hval hsz
  obtain ⟨v0, vs0, d0, ds0, p0, q0, hargs, rfl, rfl, h0, r0⟩ := trodAll_cons hA
  obtain ⟨rfl, rfl, rfl⟩ := trodAll_nil r0
  obtain rfl : args = #[v0] := by cases args; simp_all
  obtain ⟨rfl, rfl⟩ := trodVars_none hV
  have t0 := h0
  have lt0 : ∀ x ∈ p0, x.block < W.heap.size := by obtain ⟨m, hm⟩ := t0; exact DataW.trod_lt m _ _ _ hm
  obtain ⟨A0, len0, cap0, rfl⟩ := okWide_slice Try.underlying27 (hval 0 27 v0 rfl rfl)
  obtain ⟨a0, k0, w0⟩ := Br.Rd.arg rd27 h0 hsz (j := 0) rfl rfl
  obtain ⟨A0', c0, e0, hc0, hr0⟩ : ∃ A c, (Value.slice A0 len0 cap0) = .slice A a0.length c ∧ a0.length ≤ c ∧ Kd.C k42 W A a0.length a0 := by
    obtain ⟨A, c, e, h1, h2⟩ := k0
    exact ⟨A, c, by simpa [Value.cells] using e, h1, h2⟩
  obtain ⟨rfl, rfl, rfl⟩ : A0 = A0' ∧ len0 = a0.length ∧ cap0 = c0 := by simpa using e0
  clear e0
  clear hA0 hval0 hsz0 hsz
  obtain ⟨k, hp⟩ := (fun a _ => ⟨2000, PTK.CollectChecks a 2000 (Nat.le_refl _)⟩ : ∀ (a : List S42), _ → ∃ k, plenumlaw42_CollectChecks.f k a = some true) a0 w0
  refine (plenumlaw42_CollectChecks.calls k _ _ a0 true W hr0 hc0 hp).mono fun e W' ⟨he, bel⟩ => ?_
  subst he
  exact ⟨_, rfl, _, _, _, [], _, [], hW', trodAll_mk1 (shut_bool Try.underlying4 _), (trodAll_cons_mk (Below.trod laidOut (by kernel_rfl) (of_decide_eq_true (by kernel_rfl)) t0 bel lt0) trodAll_mk0), rfl, bel.frame _, fun h => by cases h⟩
theorem over : Rows.collectChecksRow.holds Try.pinned (OpenSpec.ofChange Rows.collectChecksSpec) :=
  OpenClaim.holds_of_wide 9 Try.f9 rfl rfl rfl rfl rfl rfl rfl ⟨rfl, rfl, rfl, rfl, rfl⟩ rfl rfl rfl rfl rfl (by kernel_rfl) Try.func9 (by kernel_rfl)
    (of_decide_eq_true (by kernel_rfl)) (by unfold Func.isWrapper; first | (rw [if_pos (by decide +kernel)]; kernel_rfl) | (rw [if_neg (by decide +kernel)]; exact ⟨rfl, rfl⟩))
    (fun os started H enc _ => lifted os started H enc)
end Go.Proofs.Yteclemahimldeaa.RowCollectChecks
namespace Go.Proofs.Yteclemahimldeaa
/-- The row. -/
theorem collectChecks_holds : Rows.CollectChecksSaid := RowCollectChecks.over
#print axioms collectChecks_holds
end Go.Proofs.Yteclemahimldeaa
