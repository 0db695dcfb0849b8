/- The statement ExceptionBelowCardSaid: for every input the law ExceptionBelow returns true; each argument reads afterwards as it did. Condition: the package's tables of words start as the program's text lays them (the card ties it). -/
import Derived.Test.YtcklpjecelnamaaDoorRows
import Derived.Test.YtcklpjecelnamaaDoorTie
import Derived.Test.YtcklpjecelnamaaDoorCards
import Derived.Test.YtcklpjecelnamaaDoorXR
import Derived.Test.YtcklpjecelnamaaDoorXT5
import Derived.WalkKit
import Derived.ProofKit
import Derived.OpenShut
import Derived.ShutString
import Derived.ChangeOld
import Derived.Below
import Derived.Carry
import Derived.SizedLaws
import Derived.LaidLaws
import Derived.SevenTiedAt
import Derived.Stop.Joined
import Derived.Lay
set_option linter.unusedVariables false
set_option linter.unusedSimpArgs false
namespace Go.Proofs.YtcklpjecelnamaaDoor.RowExceptionBelow
open Go.ChangeShapes Go.WideShapes Go.ChangeAt Go.RowKit Go.Eng Go.Eng.N
open Go.ChangeMaps (open_string shut_string)
theorem own : ownKnob Tryd.prog.godebug = none:=by kernel_rfl
theorem laidOut : laidOutB Tryd.prog = true:=by kernel_rfl
set_option maxRecDepth 100000 in
theorem lifted (os : Os) (started : os.Started) (H : Type) (enc : TypeId×Value→H) :
    ReturnsInHanded {} Tryd.checked os 5 .any (fun w args=>(Rows.exceptionBelowSpec.pre enc Tryd.prog Tryd.f5 [] false w args∧laidMet Tryd.prog laidL w)∧sizedMet enc Tryd.prog Tryd.f5 (OpenSpec.ofChange Rows.exceptionBelowSpec) false w args)
      (Rows.exceptionBelowSpec.post enc Tryd.prog Tryd.f5 false true false false):=by
  refine returnsInHanded_of_change_and (C:=Tryd.checked) (X:=fun w _=>laidMet Tryd.prog laidL w) (fun _ _ _ hh h=>h.of_heap hh) own started (by kernel_rfl) Tryd.func5
    (ChangeSpec.witness_shaped (enc:=enc) (C:=Tryd.checked) (os:=os) (X:=fun w _=>laidMet Tryd.prog laidL w) false (World.laidAll Tryd.prog os laidL) #[.slice none 0 0,.slice none 0 0,.agg #[.string ByteArray.empty,.int .i64 0,.int .i64 0,.int .i64 0,.int .i64 0,.int .i64 0,.int .i64 0,.int .i64 0,.int .i64 0,.int .i64 0,.int .i64 0,.int .i64 0,.string ByteArray.empty,.int .i64 0,.slice none 0 0],.int .i64 0,.int .i64 0] 8 (World.laidAll_os _ _ _) (World.shaped_of_ZipB (by kernel_rfl) (by kernel_rfl)) (by kernel_rfl) (by kernel_rfl) (by kernel_rfl) (laidMet_laidAll _ (by kernel_rfl) (by kernel_rfl))) ?_
  intro W base args ds gs before hval0 hW _ hsz0 hL _
  have hsz : (DataW.weightsEach Tryd.prog (Tryd.f5.params.toList ++ Rows.exceptionBelowSpec.plain.varTypes Tryd.prog) (ds ++ gs)).all (·≤reachBytes) = true:=hsz0
  have hval : ∀ (j : Nat) t v,Tryd.f5.params[j]? = some t→args[j]? = some v→Value.okWide Tryd.prog W .any base t v:=hval0
  have hW':=hW
  obtain ⟨p,q,hA0,hV0,rfl,hfz,hnd⟩:=hW
  have hA : DataW.TrodAll enc Tryd.prog W 0 (fun _=>true) true Tryd.f5.params.toList args.toList ds p:=hA0
  have hV : DataW.TrodVars enc Tryd.prog W (fun _=>true) [] gs q:=hV0
  rw [Tryd.params5] at hA hval hsz
  obtain ⟨v0,vs0,d0,ds0,p0,q0,hargs,rfl,rfl,h0,r0⟩:=trodAll_cons hA
  obtain ⟨v1,vs1,d1,ds1,p1,q1,rfl,rfl,rfl,h1,r1⟩:=trodAll_cons r0
  obtain ⟨v2,vs2,d2,ds2,p2,q2,rfl,rfl,rfl,h2,r2⟩:=trodAll_cons r1
  obtain ⟨v3,vs3,d3,ds3,p3,q3,rfl,rfl,rfl,h3,r3⟩:=trodAll_cons r2
  obtain ⟨v4,vs4,d4,ds4,p4,q4,rfl,rfl,rfl,h4,r4⟩:=trodAll_cons r3
  obtain ⟨rfl,rfl,rfl⟩:=trodAll_nil r4
  obtain rfl : args = #[v0,v1,v2,v3,v4]:=by cases args; simp_all
  obtain ⟨rfl,rfl⟩:=trodVars_none hV
  have t0:=h0
  have lt0 : ∀ x∈p0,x.block < W.heap.size:=by obtain ⟨m,hm⟩:=t0; exact DataW.trod_lt m _ _ _ hm
  obtain ⟨A0,len0,cap0,rfl⟩:=okWide_slice Tryd.underlying37 (hval 0 37 v0 rfl rfl)
  obtain ⟨x0,k0,w0⟩:=Rd.arg rdExcs h0 hsz (j:=0) rfl rfl
  have t1:=h1
  have lt1 : ∀ x∈p1,x.block < W.heap.size:=by obtain ⟨m,hm⟩:=t1; exact DataW.trod_lt m _ _ _ hm
  obtain ⟨A1,len1,cap1,rfl⟩:=okWide_slice Tryd.underlying38 (hval 1 38 v1 rfl rfl)
  obtain ⟨x1,k1,w1⟩:=Rd.arg rdCals h1 hsz (j:=1) rfl rfl
  have t2:=h2
  have lt2 : ∀ x∈p2,x.block < W.heap.size:=by obtain ⟨m,hm⟩:=t2; exact DataW.trod_lt m _ _ _ hm
  obtain ⟨cs2,rfl,_⟩:=okWide_struct Tryd.underlying52 (hval 2 52 v2 rfl rfl)
  obtain ⟨x2,k2,w2⟩:=Rd.arg rdExc h2 hsz (j:=2) rfl rfl
  have t3:=h3
  have lt3 : ∀ x∈p3,x.block < W.heap.size:=by obtain ⟨m,hm⟩:=t3; exact DataW.trod_lt m _ _ _ hm
  obtain ⟨x3,rfl,rfl,rfl,w3⟩:=open_int Tryd.underlying3 (hval 3 3 v3 rfl rfl) h3
  have t4:=h4
  have lt4 : ∀ x∈p4,x.block < W.heap.size:=by obtain ⟨m,hm⟩:=t4; exact DataW.trod_lt m _ _ _ hm
  obtain ⟨x4,rfl,rfl,rfl,w4⟩:=open_int Tryd.underlying3 (hval 4 3 v4 rfl rfl) h4
  have hG:=glob_ok hL
  clear hA0 hval0 hsz0 hsz hV0 hV
  have hp : f5_G [.w (.one (.p (.sl 15 (x0.map Exc.c) false))),.w (.one (.p (.sl 2 (x1.map Cal.c) false))),.w (.pagg (Exc.c x2)),I x3,I x4] [] (fun r _=>r = B true):=by
    have e : f5_G [.w (.one (.p (.sl 15 (x0.map Exc.c) false))),.w (.one (.p (.sl 2 (x1.map Cal.c) false))),.w (.pagg (Exc.c x2)),I x3,I x4] [] (fun r _=>r = B true) = f5 (x0.map Exc.c) (false) (x1.map Cal.c) (false) (x2.name) (x2.p.y) (x2.p.mo) (x2.p.d) (x2.p.wd) (x2.p.wk) (x2.p.fy) (x2.p.fm) (x2.p.fd) (x2.p.ty) (x2.p.tm) (x2.p.td) (x2.cal) (x2.pri) (x2.es.map En.c) (x2.f) (x3) (x4) (fun b=>B b = B true):=by kernel_rfl
    rw [e]
    exact f5_ok (x:=x2) (by have:=w0.1; omega) (es_ok w0.2) (by have : x2.es.length * 24≤140737488351232:=w2; omega) (ps_ok w1.2) rfl
  have hr : RepVs (old W) [] [] W [.w (.one (.p (.sl 15 (x0.map Exc.c) false))),.w (.one (.p (.sl 2 (x1.map Cal.c) false))),.w (.pagg (Exc.c x2)),I x3,I x4] [.slice A0 len0 cap0,.slice A1 len1 cap1,.agg cs2,.int .i64 x3,.int .i64 x4]:=⟨k0.1,⟨k1.1,⟨⟨cs2,rfl,k2⟩,⟨RepC.c _ rfl,⟨RepC.c _ rfl,trivial⟩⟩⟩⟩⟩
  refine (run_of f5_G_ok hG (vs:=#[.slice A0 len0 cap0,.slice A1 len1 cap1,.agg cs2,.int .i64 x3,.int .i64 x4]) hr hp).mono fun e W' ⟨he,bel⟩=>?_
  subst he
  exact ⟨_,rfl,_,_,_,[],_,[],hW',trodAll_mk1 (shut_bool Tryd.underlying4 _),(trodAll_cons_mk (Below.trod laidOut (by kernel_rfl) (of_decide_eq_true (by kernel_rfl)) t0 bel lt0) (trodAll_cons_mk (Below.trod laidOut (by kernel_rfl) (of_decide_eq_true (by kernel_rfl)) t1 bel lt1) (trodAll_cons_mk (Below.trod laidOut (by kernel_rfl) (of_decide_eq_true (by kernel_rfl)) t2 bel lt2) (trodAll_cons_mk (shut_int Tryd.underlying3 w3) (trodAll_cons_mk (shut_int Tryd.underlying3 w4) trodAll_mk0))))),rfl,bel.frame _,fun h=>by cases h⟩
theorem over : Rows.exceptionBelowRow.holds Tryd.pinned (OpenSpec.ofChange Rows.exceptionBelowSpec) :=
  OpenClaim.holds_of_wide 5 Tryd.f5 rfl rfl rfl rfl rfl rfl rfl ⟨rfl,rfl,rfl,rfl,rfl⟩ rfl rfl rfl rfl rfl (by kernel_rfl) Tryd.func5 (by kernel_rfl)
    (of_decide_eq_true (by kernel_rfl)) (by unfold Func.isWrapper; first | (rw [if_pos (by decide +kernel)]; kernel_rfl) | (rw [if_neg (by decide +kernel)]; exact ⟨rfl,rfl⟩) | (rw [if_neg (of_decide_eq_false (by kernel_rfl))]; exact ⟨rfl,rfl⟩))
    (fun os started H enc _=>lifted os started H enc)
end Go.Proofs.YtcklpjecelnamaaDoor.RowExceptionBelow
namespace Go.Proofs.YtcklpjecelnamaaDoor
open Go
theorem exceptionBelow_holds : Rows.ExceptionBelowCardSaid :=
  Claim7.holds_tied_plain_at .later [] [.data] true (true, "351e4c98a2abc716982bed95fb0e5700311e726924b991411439c65ffa1b4d15") false
    RowExceptionBelow.over (fun _ h=>by cases h) (by kernel_rfl) (fun _ h=>by cases h) exceptionBelow_row_tie rfl ⟨rfl,rfl⟩ (by kernel_rfl) rfl
    (fun f fn hf hfn=>by
      obtain rfl : f = 5 := Option.some.inj ((show Tryd.prog.funcNamed "plenum/plenumlaw32.ExceptionBelow" = some 5 by kernel_rfl).symm.trans hf) |>.symm
      obtain rfl : fn = Tryd.f5:=(Option.some.inj (Tryd.func5.symm.trans hfn)).symm
      exact ⟨by kernel_rfl,fun j t ht=>by
        rw [Tryd.params5] at ht
        have hm : t∈([37,38,52,3,3] : List TypeId):=by
          have:=List.mem_of_getElem? (l:=([37,38,52,3,3] : List TypeId)) (i:=j) (by simpa using ht)
          exact this
        simp only [List.mem_cons,List.not_mem_nil,or_false] at hm
        rcases hm with rfl | rfl | rfl | rfl | rfl
        · exact (show Tryd.prog.wantsStandIn 37 = false by kernel_rfl)
        · exact (show Tryd.prog.wantsStandIn 38 = false by kernel_rfl)
        · exact (show Tryd.prog.wantsStandIn 52 = false by kernel_rfl)
        · exact (show Tryd.prog.wantsStandIn 3 = false by kernel_rfl)
        · exact (show Tryd.prog.wantsStandIn 3 = false by kernel_rfl)⟩)
    (by kernel_rfl)
#print axioms exceptionBelow_holds
end Go.Proofs.YtcklpjecelnamaaDoor
