/- The statement NotifyBackCardSaid: for every input the law NotifyBack returns true; each argument reads afterwards as it did. Condition: the package's tables of words start as the program's text lays them (the card ties it). -/
import Derived.Test.YtbidkfbcmhioiaaDoorRows
import Derived.Test.YtbidkfbcmhioiaaDoorTie
import Derived.Test.YtbidkfbcmhioiaaDoorCards
import Derived.Test.YtbidkfbcmhioiaaDoorPR
import Derived.Test.YtbidkfbcmhioiaaDoorPK10
import Derived.WalkKit
import Derived.ProofKit
import Derived.OpenShut
import Derived.ShutString
import Derived.ChangeOld
import Derived.Below
import Derived.Carry
import Derived.SizedLaws
import Derived.LaidLaws
import Derived.SevenTiedAt
import Derived.Stop.Joined
import Derived.Lay
set_option linter.unusedVariables false
set_option linter.unusedSimpArgs false
namespace Go.Proofs.YtbidkfbcmhioiaaDoor.RowNotifyBack
open Go.ChangeShapes Go.WideShapes Go.ChangeAt Go.RowKit Go.Eng Go.Eng.N
open Go.ChangeMaps (open_string shut_string)
theorem own : ownKnob Tryd.prog.godebug = none := by kernel_rfl
theorem laidOut : laidOutB Tryd.prog = true := by kernel_rfl
set_option maxRecDepth 100000 in
theorem lifted (os : Os) (started : os.Started) (H : Type) (enc : TypeId × Value → H) :
    ReturnsInHanded {} Tryd.checked os 10 .any (fun w args => (Rows.notifyBackSpec.pre enc Tryd.prog Tryd.f10 [] false w args ∧ laidMet Tryd.prog laidL w) ∧ sizedMet enc Tryd.prog Tryd.f10 (OpenSpec.ofChange Rows.notifyBackSpec) false w args)
      (Rows.notifyBackSpec.post enc Tryd.prog Tryd.f10 false true false false) := by
  refine returnsInHanded_of_change_and (C := Tryd.checked) (X := fun w _ => laidMet Tryd.prog laidL w) (fun _ _ _ hh h => h.of_heap hh) own started (by kernel_rfl) Tryd.func10
    (ChangeSpec.witness_shaped (enc := enc) (C := Tryd.checked) (os := os) (X := fun w _ => laidMet Tryd.prog laidL w) false (World.laidAll Tryd.prog os laidL) #[.agg #[.string ByteArray.empty, .int .i64 0, .int .i64 0, .slice none 0 0]] 8 (World.laidAll_os _ _ _) (World.shaped_of_ZipB (by kernel_rfl) (by kernel_rfl)) (by kernel_rfl) (by kernel_rfl) (by kernel_rfl) (laidMet_laidAll _ (by kernel_rfl) (by kernel_rfl))) ?_
  intro W base args ds gs before hval0 hW _ hsz0 hL _
  have hsz : (DataW.weightsEach Tryd.prog (Tryd.f10.params.toList ++ Rows.notifyBackSpec.plain.varTypes Tryd.prog) (ds ++ gs)).all (· ≤ reachBytes) = true := hsz0
  have hval : ∀ (j : Nat) t v, Tryd.f10.params[j]? = some t → args[j]? = some v → Value.okWide Tryd.prog W .any base t v := hval0
  have hW' := hW
  obtain ⟨p, q, hA0, hV0, rfl, hfz, hnd⟩ := hW
  have hA : DataW.TrodAll enc Tryd.prog W 0 (fun _ => true) true Tryd.f10.params.toList args.toList ds p := hA0
  have hV : DataW.TrodVars enc Tryd.prog W (fun _ => true) [] gs q := hV0
  rw [Tryd.params10] at hA hval hsz
  obtain ⟨v0, vs0, d0, ds0, p0, q0, hargs, rfl, rfl, h0, r0⟩ := trodAll_cons hA
  obtain ⟨rfl, rfl, rfl⟩ := trodAll_nil r0
  obtain rfl : args = #[v0] := by cases args; simp_all
  obtain ⟨rfl, rfl⟩ := trodVars_none hV
  have t0 := h0
  have lt0 : ∀ x ∈ p0, x.block < W.heap.size := by obtain ⟨m, hm⟩ := t0; exact DataW.trod_lt m _ _ _ hm
  obtain ⟨cs0, rfl, _⟩ := okWide_struct Tryd.underlying24 (hval 0 24 v0 rfl rfl)
  obtain ⟨x0, k0, w0⟩ := Rd.arg rdCls h0 hsz (j := 0) rfl rfl
  have hG := glob_ok hL
  clear hA0 hval0 hsz0 hsz hV0 hV
  have hp : f10_G [.w (.pagg (Cls.c x0))] [] (fun r _ => r = B true) := by
    have e : f10_G [.w (.pagg (Cls.c x0))] [] (fun r _ => r = B true) = f10 (x0.nm) (x0.pri) (x0.acks) (x0.rs.map Rc.c) (false) (fun b => B b = B true) := by kernel_rfl
    rw [e]
    exact f10_ok (c := x0) w0.nm w0.sz rfl
  have hr : RepVs (old W) [] [] W [.w (.pagg (Cls.c x0))] [.agg cs0] := ⟨⟨cs0, rfl, k0⟩, trivial⟩
  refine (run_of f10_G_ok hG (vs := #[.agg cs0]) hr hp).mono fun e W' ⟨he, bel⟩ => ?_
  subst he
  exact ⟨_, rfl, _, _, _, [], _, [], hW', trodAll_mk1 (shut_bool Tryd.underlying4 _), (trodAll_cons_mk (Below.trod laidOut (by kernel_rfl) (of_decide_eq_true (by kernel_rfl)) t0 bel lt0) trodAll_mk0), rfl, bel.frame _, fun h => by cases h⟩
theorem over : Rows.notifyBackRow.holds Tryd.pinned (OpenSpec.ofChange Rows.notifyBackSpec) :=
  OpenClaim.holds_of_wide 10 Tryd.f10 rfl rfl rfl rfl rfl rfl rfl ⟨rfl, rfl, rfl, rfl, rfl⟩ rfl rfl rfl rfl rfl (by kernel_rfl) Tryd.func10 (by kernel_rfl)
    (of_decide_eq_true (by kernel_rfl)) (by unfold Func.isWrapper; first | (rw [if_pos (by decide +kernel)]; kernel_rfl) | (rw [if_neg (by decide +kernel)]; exact ⟨rfl, rfl⟩) | (rw [if_neg (of_decide_eq_false (by kernel_rfl))]; exact ⟨rfl, rfl⟩))
    (fun os started H enc _ => lifted os started H enc)
end Go.Proofs.YtbidkfbcmhioiaaDoor.RowNotifyBack
namespace Go.Proofs.YtbidkfbcmhioiaaDoor
open Go
/-- The card. -/
theorem notifyBack_holds : Rows.NotifyBackCardSaid :=
  Claim7.holds_tied_plain_at .later [] [.widerDeep, .widerDeep] true (true, "fb2af922b064a5c19b378919d66d942f6b5648a157a6cea855787ffe2a932d49") false
    RowNotifyBack.over (fun _ h => by cases h) (by kernel_rfl) (fun _ h => by cases h) notifyBack_row_tie rfl ⟨rfl, rfl⟩ (by kernel_rfl) rfl
    (fun f fn hf hfn => by
      obtain rfl : f = 10 := Option.some.inj ((show Tryd.prog.funcNamed "plenum/plenumlaw39.NotifyBack" = some 10 by kernel_rfl).symm.trans hf) |>.symm
      obtain rfl : fn = Tryd.f10 := (Option.some.inj (Tryd.func10.symm.trans hfn)).symm
      exact ⟨by kernel_rfl, fun j t ht => by
        rw [Tryd.params10] at ht
        have hm : t ∈ ([24] : List TypeId) := by
          have := List.mem_of_getElem? (l := ([24] : List TypeId)) (i := j) (by simpa using ht)
          exact this
        simp only [List.mem_cons, List.not_mem_nil, or_false] at hm
        rcases hm with rfl
        · exact (show Tryd.prog.wantsStandIn 24 = false by kernel_rfl)⟩)
    (by kernel_rfl)
#print axioms notifyBack_holds
end Go.Proofs.YtbidkfbcmhioiaaDoor
