/- The row of the law LeadlagFair: for every input it returns true; each argument reads afterwards as it did. -/
import Derived.Test.YtbecejhjdagkdaaRows
import Derived.Test.YtbecejhjdagkdaaBr
import Derived.Test.YtbecejhjdagkdaaLQ7
import Derived.WalkKit
import Derived.ProofKit
import Derived.OpenShut
import Derived.ShutString
import Derived.ChangeOld
import Derived.Below
import Derived.SizedLaws
set_option linter.unusedVariables false
set_option linter.unusedSimpArgs false
namespace Go.Proofs.Ytbecejhjdagkdaa.RowLeadlagFair
open Go.ChangeShapes Go.WideShapes Go.ChangeAt Go.RowKit Go.Proofs.Ytbecejhjdagkdaa.L Go.Proofs.YtbecejhjdagkdaaW.PrintWords
open Go.ChangeMaps (open_string shut_string)
theorem own : ownKnob Try.prog.godebug = none := by kernel_rfl
theorem laidOut : laidOutB Try.prog = true := by kernel_rfl
def ok23 (x : Int × Int) : Prop := (Lit.int .i64 x.1).wf = true ∧ (Lit.int .i64 x.2).wf = true
def k23' : Kd (Int × Int) := Kd.iso (Kd.pair (Kd.int .i64) (Kd.int .i64)) (fun x : Int × Int => (x.1, x.2))
theorem open23 {w : World} {x : Int × Int} {cs : List Value} (h : k23'.K w x cs) : cs = [.int .i64 x.1, .int .i64 x.2] := by
  obtain ⟨_, _, rfl, rfl, rfl⟩ := h
  exact rfl
theorem rd23 : Br.Rd Try.prog 23 k23' ok23 :=
  (Br.Rd.struct (fun x : Int × Int => (x.1, x.2)) (fun p => (p.1, p.2)) (fun _ => rfl) Try.underlying23 (by kernel_rfl) (Br.RdP.cons rfl (by kernel_rfl) (Br.Rd.int Try.underlying3) (Br.RdP.one rfl (by kernel_rfl) (Br.Rd.int Try.underlying3))))
theorem rd49 : Br.Rd Try.prog 49 (Kd.slice 3 (Kd.int .i64)) (fun xs => xs.length * 8 ≤ 140737488351232 ∧ ∀ x ∈ xs, (Lit.int .i64 x).wf = true) := Br.Rd.slice Try.underlying49 (by kernel_rfl) (B := 8) (by kernel_rfl) (Br.Rd.int Try.underlying3)
theorem rd64 : Br.Rd Try.prog 64 (Kd.slice 4 Kd.bool) (fun xs => xs.length * 1 ≤ 140737488351232 ∧ ∀ x ∈ xs, True) := Br.Rd.slice Try.underlying64 (by kernel_rfl) (B := 1) (by kernel_rfl) (Br.Rd.bool Try.underlying4)
theorem rd68 : Br.Rd Try.prog 68 (Kd.slice 64 (Kd.slice 4 Kd.bool)) (fun xs => xs.length * 24 ≤ 140737488351232 ∧ ∀ x ∈ xs, x.length * 1 ≤ 140737488351232 ∧ ∀ y ∈ x, True) := Br.Rd.slice Try.underlying68 (by kernel_rfl) (B := 24) (by kernel_rfl) rd64
set_option maxRecDepth 100000 in
theorem lifted (os : Os) (started : os.Started) (H : Type) (enc : TypeId × Value → H) :
    ReturnsInHanded {} Try.checked os 5 .any (Rows.leadlagFairSpec.pre6 enc Try.prog Try.f5 Rows.leadlagFairRow.domain false) (Rows.leadlagFairSpec.post enc Try.prog Try.f5 false true false false) := by
  refine returnsInHanded_of_change_sized (C := Try.checked) own started (by kernel_rfl) Try.func5
    (ChangeSpec.witness6 (enc := enc) (C := Try.checked) false ⟨#[], #[.agg #[.int .i64 0, .int .i64 0], .int .i64 0, .int .i64 0, .slice none 0 0, .int .i64 0], []⟩ 8 (by kernel_rfl) (by kernel_rfl) (by kernel_rfl) (by kernel_rfl)) ?_
  intro W base args ds gs before hval0 hW hcnd hsz0 _
  have hsz : (DataW.weightsEach Try.prog (Try.f5.params.toList ++ Rows.leadlagFairSpec.plain.varTypes Try.prog) (ds ++ gs)).all (· ≤ reachBytes) = true := hsz0
  have hval : ∀ (j : Nat) t v, Try.f5.params[j]? = some t → args[j]? = some v → Value.okWide Try.prog W .any base t v := hval0
  have hW' := hW
  obtain ⟨p, q, hA0, hV, rfl, hfz, hnd⟩ := hW
  have hA : DataW.TrodAll enc Try.prog W 0 (fun _ => true) true Try.f5.params.toList args.toList ds p := hA0
  rw [Try.params5] at hA hval hsz
  obtain ⟨v0, vs0, d0, ds0, p0, q0, hargs, rfl, rfl, h0, r0⟩ := trodAll_cons hA
  obtain ⟨v1, vs1, d1, ds1, p1, q1, rfl, rfl, rfl, h1, r1⟩ := trodAll_cons r0
  obtain ⟨v2, vs2, d2, ds2, p2, q2, rfl, rfl, rfl, h2, r2⟩ := trodAll_cons r1
  obtain ⟨v3, vs3, d3, ds3, p3, q3, rfl, rfl, rfl, h3, r3⟩ := trodAll_cons r2
  obtain ⟨v4, vs4, d4, ds4, p4, q4, rfl, rfl, rfl, h4, r4⟩ := trodAll_cons r3
  obtain ⟨rfl, rfl, rfl⟩ := trodAll_nil r4
  obtain rfl : args = #[v0, v1, v2, v3, v4] := by cases args; simp_all
  obtain ⟨rfl, rfl⟩ := trodVars_none hV
  have t0 := h0
  have lt0 : ∀ x ∈ p0, x.block < W.heap.size := by obtain ⟨m, hm⟩ := t0; exact DataW.trod_lt m _ _ _ hm
  obtain ⟨cs0, rfl, _⟩ := okWide_struct Try.underlying23 (hval 0 23 v0 rfl rfl)
  obtain ⟨x0, k0, w0⟩ := Br.Rd.arg rd23 h0 hsz (j := 0) rfl rfl
  obtain rfl : cs0 = #[.int .i64 x0.1, .int .i64 x0.2] := by
    have z := open23 k0
    obtain ⟨l⟩ := cs0
    simpa [Value.cells] using z
  obtain ⟨a1, rfl, rfl, rfl, w1⟩ := open_int Try.underlying3 (hval 1 3 v1 rfl rfl) h1
  obtain ⟨a2, rfl, rfl, rfl, w2⟩ := open_int Try.underlying3 (hval 2 3 v2 rfl rfl) h2
  have t3 := h3
  have lt3 : ∀ x ∈ p3, x.block < W.heap.size := by obtain ⟨m, hm⟩ := t3; exact DataW.trod_lt m _ _ _ hm
  obtain ⟨A3, len3, cap3, rfl⟩ := okWide_slice Try.underlying49 (hval 3 49 v3 rfl rfl)
  obtain ⟨a3, k3, w3⟩ := Br.Rd.arg rd49 h3 hsz (j := 3) rfl rfl
  obtain ⟨A3', c3, e3, hc3, hr3⟩ : ∃ A c, (Value.slice A3 len3 cap3) = .slice A a3.length c ∧ a3.length ≤ c ∧ Kd.C (Kd.int .i64) W A a3.length a3 := by
    obtain ⟨A, c, e, h1, h2⟩ := k3
    exact ⟨A, c, by simpa [Value.cells] using e, h1, h2⟩
  obtain ⟨rfl, rfl, rfl⟩ : A3 = A3' ∧ len3 = a3.length ∧ cap3 = c3 := by simpa using e3
  clear e3
  obtain ⟨a4, rfl, rfl, rfl, w4⟩ := open_int Try.underlying3 (hval 4 3 v4 rfl rfl) h4
  clear hA0 hval0 hsz0 hsz
  obtain ⟨k, hp⟩ := (fun x _ u _ rn _ ns _ n _ => ⟨7000, PL.fair_f x.1 x.2 u rn ns n (Nat.le_refl _)⟩ : ∀ (x : Int × Int) (_ : _) (u : Int) (_ : (Lit.int .i64 u).wf = true) (rn : Int) (_ : (Lit.int .i64 rn).wf = true) (ns : List Int) (_ : _) (n : Int) (_ : (Lit.int .i64 n).wf = true), ∃ k, plenumlaw55_LeadlagFair.f k x.1 x.2 u rn ns n = some true) x0 w0 a1 w1 a2 w2 a3 w3 a4 w4
  refine (plenumlaw55_LeadlagFair.calls k x0.1 x0.2 a1 a2 _ _ a3 a4 true W hr3 hc3 hp).mono fun e W' ⟨he, bel⟩ => ?_
  subst he
  exact ⟨_, rfl, _, _, _, [], _, [], hW', trodAll_mk1 (shut_bool Try.underlying4 _), (trodAll_cons_mk (Below.trod laidOut (by kernel_rfl) (of_decide_eq_true (by kernel_rfl)) t0 bel lt0) (trodAll_cons_mk (shut_int Try.underlying3 w1) (trodAll_cons_mk (shut_int Try.underlying3 w2) (trodAll_cons_mk (Below.trod laidOut (by kernel_rfl) (of_decide_eq_true (by kernel_rfl)) t3 bel lt3) (trodAll_cons_mk (shut_int Try.underlying3 w4) trodAll_mk0))))), rfl, bel.frame _, fun h => by cases h⟩
theorem over : Rows.leadlagFairRow.holds Try.pinned (OpenSpec.ofChange Rows.leadlagFairSpec) :=
  OpenClaim.holds_of_wide 5 Try.f5 rfl rfl rfl rfl rfl rfl rfl ⟨rfl, rfl, rfl, rfl, rfl⟩ rfl rfl rfl rfl rfl (by kernel_rfl) Try.func5 (by kernel_rfl)
    (of_decide_eq_true (by kernel_rfl)) (by unfold Func.isWrapper; first | (rw [if_pos (by decide +kernel)]; kernel_rfl) | (rw [if_neg (by decide +kernel)]; exact ⟨rfl, rfl⟩))
    (fun os started H enc _ => lifted os started H enc)
end Go.Proofs.Ytbecejhjdagkdaa.RowLeadlagFair
namespace Go.Proofs.Ytbecejhjdagkdaa
/-- The row. -/
theorem leadlagFair_holds : Rows.LeadlagFairSaid := RowLeadlagFair.over
#print axioms leadlagFair_holds
end Go.Proofs.Ytbecejhjdagkdaa
