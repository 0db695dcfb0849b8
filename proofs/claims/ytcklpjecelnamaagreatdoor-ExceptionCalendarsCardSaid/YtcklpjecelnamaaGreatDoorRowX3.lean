/- The statement ExceptionCalendarsCardSaid: for every input the law ExceptionCalendars returns true; each argument reads afterwards as it did. Condition: the package's tables of words start as the program's text lays them (the card ties it). -/
import Derived.Test.YtcklpjecelnamaaGreatDoorRows
import Derived.Test.YtcklpjecelnamaaGreatDoorTie
import Derived.Test.YtcklpjecelnamaaGreatDoorCards
import Derived.Test.YtcklpjecelnamaaGreatDoorXR
import Derived.Test.YtcklpjecelnamaaGreatDoorXQ3
import Derived.WalkKit
import Derived.ProofKit
import Derived.OpenShut
import Derived.ShutString
import Derived.ChangeOld
import Derived.Below
import Derived.Carry
import Derived.SizedLaws
import Derived.LaidLaws
import Derived.SevenTiedAt
import Derived.Stop.Joined
import Derived.Lay
set_option linter.unusedVariables false
set_option linter.unusedSimpArgs false
namespace Go.Proofs.YtcklpjecelnamaaGreatDoor.RowExceptionCalendars
open Go.ChangeShapes Go.WideShapes Go.ChangeAt Go.RowKit Go.Eng Go.Eng.N
open Go.ChangeMaps (open_string shut_string)
theorem own : ownKnob Tryz.prog.godebug = none:=by kernel_rfl
theorem laidOut : laidOutB Tryz.prog = true:=by kernel_rfl
set_option maxRecDepth 100000 in
theorem lifted (os : Os) (started : os.Started) (H : Type) (enc : TypeId×Value→H) :
    ReturnsInHanded {} Tryz.checked os 3 .any (fun w args=>(Rows.exceptionCalendarsSpec.pre enc Tryz.prog Tryz.f3 [] false w args∧laidMet Tryz.prog laidL w)∧sizedMet enc Tryz.prog Tryz.f3 (OpenSpec.ofChange Rows.exceptionCalendarsSpec) false w args)
      (Rows.exceptionCalendarsSpec.post enc Tryz.prog Tryz.f3 false true false false):=by
  refine returnsInHanded_of_change_and (C:=Tryz.checked) (X:=fun w _=>laidMet Tryz.prog laidL w) (fun _ _ _ hh h=>h.of_heap hh) own started (by kernel_rfl) Tryz.func3
    (ChangeSpec.witness_shaped (enc:=enc) (C:=Tryz.checked) (os:=os) (X:=fun w _=>laidMet Tryz.prog laidL w) false (World.laidAll Tryz.prog os laidL) #[.agg #[.string ByteArray.empty,.slice none 0 0],.int .i64 0,.int .i64 0] 8 (World.laidAll_os _ _ _) (World.shaped_of_ZipB (by kernel_rfl) (by kernel_rfl)) (by kernel_rfl) (by kernel_rfl) (by kernel_rfl) (laidMet_laidAll _ (by kernel_rfl) (by kernel_rfl))) ?_
  intro W base args ds gs before hval0 hW _ hsz0 hL _
  have hsz : (DataW.weightsEach Tryz.prog (Tryz.f3.params.toList ++ Rows.exceptionCalendarsSpec.plain.varTypes Tryz.prog) (ds ++ gs)).all (·≤reachBytes) = true:=hsz0
  have hval : ∀ (j : Nat) t v,Tryz.f3.params[j]? = some t→args[j]? = some v→Value.okWide Tryz.prog W .any base t v:=hval0
  have hW':=hW
  obtain ⟨p,q,hA0,hV0,rfl,hfz,hnd⟩:=hW
  have hA : DataW.TrodAll enc Tryz.prog W 0 (fun _=>true) true Tryz.f3.params.toList args.toList ds p:=hA0
  have hV : DataW.TrodVars enc Tryz.prog W (fun _=>true) [] gs q:=hV0
  rw [Tryz.params3] at hA hval hsz
  obtain ⟨v0,vs0,d0,ds0,p0,q0,hargs,rfl,rfl,h0,r0⟩:=trodAll_cons hA
  obtain ⟨v1,vs1,d1,ds1,p1,q1,rfl,rfl,rfl,h1,r1⟩:=trodAll_cons r0
  obtain ⟨v2,vs2,d2,ds2,p2,q2,rfl,rfl,rfl,h2,r2⟩:=trodAll_cons r1
  obtain ⟨rfl,rfl,rfl⟩:=trodAll_nil r2
  obtain rfl : args = #[v0,v1,v2]:=by cases args; simp_all
  obtain ⟨rfl,rfl⟩:=trodVars_none hV
  have t0:=h0
  have lt0 : ∀ x∈p0,x.block < W.heap.size:=by obtain ⟨m,hm⟩:=t0; exact DataW.trod_lt m _ _ _ hm
  obtain ⟨cs0,rfl,_⟩:=okWide_struct Tryz.underlying24 (hval 0 24 v0 rfl rfl)
  obtain ⟨x0,k0,w0⟩:=Rd.arg rdCal h0 hsz (j:=0) rfl rfl
  have t1:=h1
  have lt1 : ∀ x∈p1,x.block < W.heap.size:=by obtain ⟨m,hm⟩:=t1; exact DataW.trod_lt m _ _ _ hm
  obtain ⟨x1,rfl,rfl,rfl,w1⟩:=open_int Tryz.underlying3 (hval 1 3 v1 rfl rfl) h1
  have t2:=h2
  have lt2 : ∀ x∈p2,x.block < W.heap.size:=by obtain ⟨m,hm⟩:=t2; exact DataW.trod_lt m _ _ _ hm
  obtain ⟨x2,rfl,rfl,rfl,w2⟩:=open_int Tryz.underlying3 (hval 2 3 v2 rfl rfl) h2
  have hG:=glob_ok hL
  clear hA0 hval0 hsz0 hsz hV0 hV
  have hp : f3_G [.w (.pagg (Cal.c x0)),I x1,I x2] [] (fun r _=>r = B true):=by
    have e : f3_G [.w (.pagg (Cal.c x0)),I x1,I x2] [] (fun r _=>r = B true) = f3 (x0.name) (x0.ps.map Pt.c) (x0.f) (x1) (x2) (fun b=>B b = B true):=by kernel_rfl
    rw [e]
    exact f3_ok (c:=x0) rfl
  have hr : RepVs (old W) [] [] W [.w (.pagg (Cal.c x0)),I x1,I x2] [.agg cs0,.int .i64 x1,.int .i64 x2]:=⟨⟨cs0,rfl,k0⟩,⟨RepC.c _ rfl,⟨RepC.c _ rfl,trivial⟩⟩⟩
  refine (run_of f3_G_ok hG (vs:=#[.agg cs0,.int .i64 x1,.int .i64 x2]) hr hp).mono fun e W' ⟨he,bel⟩=>?_
  subst he
  exact ⟨_,rfl,_,_,_,[],_,[],hW',trodAll_mk1 (shut_bool Tryz.underlying4 _),(trodAll_cons_mk (Below.trod laidOut (by kernel_rfl) (of_decide_eq_true (by kernel_rfl)) t0 bel lt0) (trodAll_cons_mk (shut_int Tryz.underlying3 w1) (trodAll_cons_mk (shut_int Tryz.underlying3 w2) trodAll_mk0))),rfl,bel.frame _,fun h=>by cases h⟩
theorem over : Rows.exceptionCalendarsRow.holds Tryz.pinned (OpenSpec.ofChange Rows.exceptionCalendarsSpec) :=
  OpenClaim.holds_of_wide 3 Tryz.f3 rfl rfl rfl rfl rfl rfl rfl ⟨rfl,rfl,rfl,rfl,rfl⟩ rfl rfl rfl rfl rfl (by kernel_rfl) Tryz.func3 (by kernel_rfl)
    (of_decide_eq_true (by kernel_rfl)) (by unfold Func.isWrapper; first | (rw [if_pos (by decide +kernel)]; kernel_rfl) | (rw [if_neg (by decide +kernel)]; exact ⟨rfl,rfl⟩) | (rw [if_neg (of_decide_eq_false (by kernel_rfl))]; exact ⟨rfl,rfl⟩))
    (fun os started H enc _=>lifted os started H enc)
end Go.Proofs.YtcklpjecelnamaaGreatDoor.RowExceptionCalendars
namespace Go.Proofs.YtcklpjecelnamaaGreatDoor
open Go
theorem exceptionCalendars_holds : Rows.ExceptionCalendarsCardSaid :=
  Claim7.holds_tied_plain_at .later [] [.data] true (true, "90d22e5e35d76a35207801349349c4b56d741f2622b3c734ad180ba3887f8ad4") false
    RowExceptionCalendars.over (fun _ h=>by cases h) (by kernel_rfl) (fun _ h=>by cases h) exceptionCalendars_row_tie rfl ⟨rfl,rfl⟩ (by kernel_rfl) rfl
    (fun f fn hf hfn=>by
      obtain rfl : f = 3 := Option.some.inj ((show Tryz.prog.funcNamed "plenum/plenumlaw32.ExceptionCalendars" = some 3 by kernel_rfl).symm.trans hf) |>.symm
      obtain rfl : fn = Tryz.f3:=(Option.some.inj (Tryz.func3.symm.trans hfn)).symm
      exact ⟨by kernel_rfl,fun j t ht=>by
        rw [Tryz.params3] at ht
        have hm : t∈([24,3,3] : List TypeId):=by
          have:=List.mem_of_getElem? (l:=([24,3,3] : List TypeId)) (i:=j) (by simpa using ht)
          exact this
        simp only [List.mem_cons,List.not_mem_nil,or_false] at hm
        rcases hm with rfl | rfl | rfl
        · exact (show Tryz.prog.wantsStandIn 24 = false by kernel_rfl)
        · exact (show Tryz.prog.wantsStandIn 3 = false by kernel_rfl)
        · exact (show Tryz.prog.wantsStandIn 3 = false by kernel_rfl)⟩)
    (by kernel_rfl)
#print axioms exceptionCalendars_holds
end Go.Proofs.YtcklpjecelnamaaGreatDoor
