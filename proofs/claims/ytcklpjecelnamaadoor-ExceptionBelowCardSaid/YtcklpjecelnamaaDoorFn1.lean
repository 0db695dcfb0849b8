/- What the functions that the law reaches compute, by the engine; written by program. -/
import Derived.Test.YtcklpjecelnamaaDoorEng2
import Derived.Test.YtcklpjecelnamaaDoorProg
import Derived.KernelRfl
set_option linter.unusedVariables false
set_option maxRecDepth 100000
open Go Go.Eng Go.Proofs
namespace Go.Eng.N
noncomputable section
def tab : List (TypeId×TI):=[(2,⟨.int .i64,1,8,[pI 0],[.int .i64]⟩),
  (3,⟨.int .i64,1,8,[pI 0],[.int .i64]⟩),
  (4,⟨.bool,1,1,[pB false],[.bool]⟩),
  (5,⟨.int .u8,1,1,[.c (.int .u8 0)],[.int .u8]⟩),
  (9,⟨.str,1,16,[pS (⟨#[]⟩ : ByteArray)],[.str]⟩),
  (22,⟨.slice 49,1,24,[.sl 11 [] true],[.slice 11]⟩),
  (24,⟨.struct [(0,9),(1,22)],2,40,[pS (⟨#[]⟩ : ByteArray),.sl 11 [] true],[.str,.slice 11]⟩),
  (25,⟨.func,1,8,[.c .nilFunc],[.other]⟩),
  (26,⟨.int .i64,1,8,[pI 0],[.int .i64]⟩),
  (29,⟨.slice 3,1,24,[.sl 1 [] true],[.slice 1]⟩),
  (37,⟨.slice 52,1,24,[.sl 15 [] true],[.slice 15]⟩),
  (38,⟨.slice 24,1,24,[.sl 2 [] true],[.slice 2]⟩),
  (42,⟨.struct [(0,3),(1,2)],2,16,[pI 0,pI 0],[.int .i64,.int .i64]⟩),
  (47,⟨.struct [(0,3),(1,3),(2,3)],3,24,[pI 0,pI 0,pI 0],[.int .i64,.int .i64,.int .i64]⟩),
  (49,⟨.struct [(0,3),(1,3),(2,3),(3,3),(4,3),(5,47),(8,47)],11,88,[pI 0,pI 0,pI 0,pI 0,pI 0,pI 0,pI 0,pI 0,pI 0,pI 0,pI 0],[.int .i64,.int .i64,.int .i64,.int .i64,.int .i64,.int .i64,.int .i64,.int .i64,.int .i64,.int .i64,.int .i64]⟩),
  (50,⟨.slice 54,1,24,[.sl 3 [] true],[.slice 3]⟩),
  (52,⟨.struct [(0,9),(1,49),(12,9),(13,3),(14,50)],15,152,[pS (⟨#[]⟩ : ByteArray),pI 0,pI 0,pI 0,pI 0,pI 0,pI 0,pI 0,pI 0,pI 0,pI 0,pI 0,pS (⟨#[]⟩ : ByteArray),pI 0,.sl 3 [] true],[.str,.int .i64,.int .i64,.int .i64,.int .i64,.int .i64,.int .i64,.int .i64,.int .i64,.int .i64,.int .i64,.int .i64,.str,.int .i64,.slice 3]⟩),
  (54,⟨.struct [(0,3),(1,42)],3,24,[pI 0,pI 0,pI 0],[.int .i64,.int .i64,.int .i64]⟩),
  (71,⟨.array 2 3,2,16,[pI 0,pI 0],[.int .i64,.int .i64]⟩),
  (72,⟨.array 2 47,6,48,[pI 0,pI 0,pI 0,pI 0,pI 0,pI 0],[.int .i64,.int .i64,.int .i64,.int .i64,.int .i64,.int .i64]⟩),
  (85,⟨.int .u64,1,8,[.c (.int .u64 0)],[.int .u64]⟩),
  (90,⟨.map 9 4,1,8,[.c (.map none)],[.other]⟩),
  (110,⟨.array 13 3,13,104,[pI 0,pI 0,pI 0,pI 0,pI 0,pI 0,pI 0,pI 0,pI 0,pI 0,pI 0,pI 0,pI 0],[.int .i64,.int .i64,.int .i64,.int .i64,.int .i64,.int .i64,.int .i64,.int .i64,.int .i64,.int .i64,.int .i64,.int .i64,.int .i64]⟩),
  (114,⟨.slice 26,1,24,[.sl 1 [] true],[.slice 1]⟩)]
theorem tab_ok : TabOk Tryd.prog tab:=⟨mkTI_ok (by kernel_rfl),mkTI_ok (by kernel_rfl),mkTI_ok (by kernel_rfl),mkTI_ok (by kernel_rfl),mkTI_ok (by kernel_rfl),mkTI_ok (by kernel_rfl),mkTI_ok (by kernel_rfl),mkTI_ok (by kernel_rfl),mkTI_ok (by kernel_rfl),mkTI_ok (by kernel_rfl),mkTI_ok (by kernel_rfl),mkTI_ok (by kernel_rfl),mkTI_ok (by kernel_rfl),mkTI_ok (by kernel_rfl),mkTI_ok (by kernel_rfl),mkTI_ok (by kernel_rfl),mkTI_ok (by kernel_rfl),mkTI_ok (by kernel_rfl),mkTI_ok (by kernel_rfl),mkTI_ok (by kernel_rfl),mkTI_ok (by kernel_rfl),mkTI_ok (by kernel_rfl),mkTI_ok (by kernel_rfl),mkTI_ok (by kernel_rfl),trivial⟩
def glob : Nat→Option (List PC):=fun g=>lookN none [(0,some [pI 0,pI 31,pI 28,pI 31,pI 30,pI 31,pI 30,pI 31,pI 31,pI 30,pI 31,pI 30,pI 31])] g
def byRef : FuncId→Bool:=fun g=>List.elem g [23,24,26,40,50,65,84,85,94,96]
abbrev LL:=List (List PC)
abbrev bd (f : Func) (k : Nat):=nthC (bodies (bodyOf f)) k
def mkC (keep : List (Nat×List (Nat×List Nat))) (late nref : List (Nat×List Nat)) (nbox : List (Nat×List (Nat×Nat))) (take : List Nat) (rnil : Bool) (m : Nat) (fz : Bool) (loops : Nat→Option (St→(TExit→St→Prop)→Prop)) (call : FuncId→List TV→List Entry→(TV→List Entry→Prop)→Prop) : Ctx :=
  { ty:=tyOf tab,glob:=glob,byRef:=byRef,keep:=fun k i=>lookN [] (lookN [] keep k) i,late:=lookN [] late,nref:=lookN [] nref,nbox:=lookN [] nbox,take:=take,rnil:=rnil,m:=m,fz:=fz,loops:=loops,call:=call }
theorem follows_ok : Tryd.prog.follows .mixedOrders = true:=by kernel_rfl
def f96_p2b0 (i9 n10 : Nat) (n11 n12 : Int) (n13 n14 : Int) (es15 es16 : LL) (full17 : Bool) (N0 : Int→(LL)→Prop) (k0 : (LL)→Prop) : Prop:=bB (decide (n14 < n13)) ((0≤(w64 (n12 + n14))∧(w64 (n12 + n14)) < (n10 : Int))∧oI .i64 (ext (List.getD es15 (i9 + (Int.toNat (w64 (n12 + n14)))) []) 0 1) fun n18=>(0≤(w64 (n11 + n14))∧(w64 (n11 + n14)) < (n10 : Int))∧oI .i64 (ext (List.getD es15 (i9 + (Int.toNat (w64 (n11 + n14)))) []) 0 1) fun n19=>(0≤(w64 (n11 + n14))∧(w64 (n11 + n14)) < (n10 : Int))∧(i9 + (Int.toNat (w64 (n11 + n14)))) < es15.length∧(0≤(w64 (n12 + n14))∧(w64 (n12 + n14)) < (n10 : Int))∧(i9 + (Int.toNat (w64 (n12 + n14)))) < (List.set es15 (i9 + (Int.toNat (w64 (n11 + n14)))) (splice (List.getD es15 (i9 + (Int.toNat (w64 (n11 + n14)))) []) 0 [pI n18])).length∧N0 (w64 (n14 + 1)) (List.set (List.set es15 (i9 + (Int.toNat (w64 (n11 + n14)))) (splice (List.getD es15 (i9 + (Int.toNat (w64 (n11 + n14)))) []) 0 [pI n18])) (i9 + (Int.toNat (w64 (n12 + n14)))) (splice (List.getD (List.set es15 (i9 + (Int.toNat (w64 (n11 + n14)))) (splice (List.getD es15 (i9 + (Int.toNat (w64 (n11 + n14)))) []) 0 [pI n18])) (i9 + (Int.toNat (w64 (n12 + n14)))) []) 0 [pI n19]))) (k0 es15)
def f96_p2 (i9 n10 : Nat) (n11 n12 n13 : Int) (es16 : LL) (full17 : Bool) (k0 : (LL)→Prop) : Int×(LL)→Prop:=LoopP fun x N=>f96_p2b0 i9 n10 n11 n12 n13 x.1 x.2 es16 full17 (fun n14 es15=>N (n14,es15)) k0
def f96_d (i1 n2 : Nat) (n3 n4 n5 : Int) (es6 es7 : LL) (full8 : Bool) (k0 : (LL)→(LL)→Bool→Prop) : Prop:=f96_p2 i1 n2 n3 n4 n5 es7 full8 (fun es20=>k0 es20 es7 full8) (0,es6)
structure f96 (i1 n2 : Nat) (n3 n4 n5 : Int) (es6 es7 : LL) (full8 : Bool) (k0 : (LL)→(LL)→Bool→Prop) : Prop where
  run : f96_d i1 n2 n3 n4 n5 es6 es7 full8 k0
def f96_p2L : Told:=fun s K=>match s with
  | ⟨tm,hp⟩=>getS [.v (.one (.ref 0)),.v (.one (.int .i64)),.v (.one (.int .i64)),.v (.one (.int .i64)),.skip 6,.v (.one (.int .i64)),.skip 27] [.vec 1 true,.box [.sl 15]] tm hp fun (xx : ((Nat×Nat)×(Int×(Int×(Int×(Unit×(Int×(Unit×Unit)))))))) (yy : ((LL)×(((LL×Bool)×Unit)×Unit)))=>f96_p2 xx.1.1 xx.1.2 xx.2.1 xx.2.2.1 xx.2.2.2.1 yy.2.1.1.1 yy.2.1.1.2 (fun es0_0=>K (.exit 0) ⟨mkS 38 [],[.vec 1 es0_0 true,.box [.p (.sl 15 yy.2.1.1.1 yy.2.1.1.2)]]⟩) (xx.2.2.2.2.2.1,yy.1)
def f96_tab : List (Nat×Told):=[(2,f96_p2L)]
def f96_call : FuncId→List TV→List Entry→(TV→List Entry→Prop)→Prop:=noCalls
def f96_C : Ctx:=mkC [(2,[(0,[0,1,2,3,10]),(2,[]),(3,[])])] [] [] [] [] true 2 false (lookL f96_tab) f96_call
def f96_p2_mk (i9 n10 : Nat) (n11 n12 n13 : Int) (es16 : LL) (full17 : Bool) (x : Int×(LL)) : St:=⟨mkS 38 [(0,.w (.one (.ref 0 i9 n10))),(1,I n11),(2,I n12),(3,I n13),(10,I x.1)],[.vec 1 x.2 true,.box [.p (.sl 15 es16 full17)]]⟩
theorem f96_p2e0 (i_13 n_14 : Nat) (n_15 n_16 : Int) (n_17 n_18 : Int) (es_19 es_20 : LL) (full_21 : Bool) (N : St→Prop) (K : TExit→St→Prop) : (f96_p2b0 i_13 n_14 n_15 n_16 n_17 n_18 es_19 es_20 full_21 (fun z5 z6=>N (f96_p2_mk i_13 n_14 n_15 n_16 n_17 es_20 full_21 (z5,z6))) (fun es0_22=>K (.exit 0) ⟨mkS 38 [],[.vec 1 es0_22 true,.box [.p (.sl 15 es_20 full_21)]]⟩)) = execT f96_C (bd Tryd.f96 0) (f96_p2_mk i_13 n_14 n_15 n_16 n_17 es_20 full_21 (n_18,es_19)) (loopK N (normK f96_C 2) fun e s=>K e (normOut f96_C 2 e s)):=by kernel_rfl
set_option maxHeartbeats 4000000 in
theorem f96_p2_ok : LoopOk f96_C (bd Tryd.f96 0):=by
  refine LoopOk.of f96_p2L (by kernel_rfl) fun σ K h=>?_
  have hk : loopKey (bd Tryd.f96 0) = 2:=by kernel_rfl
  rw [hk] at h ⊢
  generalize hs : normK f96_C 2 σ = s at h
  obtain ⟨tm,hp⟩:=s
  unfold f96_p2L at h
  dsimp only at h
  obtain ⟨xx,yy,rfl,rfl,h⟩:=getS_elim h
  refine iter_of (f96_p2_mk xx.1.1 xx.1.2 xx.2.1 xx.2.2.1 xx.2.2.2.1 yy.2.1.1.1 yy.2.1.1.2) (fun x N h=>?_) rounds _ σ (hs.trans (by kernel_rfl)) (LoopP.run h)
  obtain ⟨y0,y1⟩:=x
  rw [← f96_p2e0 xx.1.1 xx.1.2 xx.2.1 xx.2.2.1 xx.2.2.2.1 y0 y1 yy.2.1.1.1 yy.2.1.1.2 N K]
  exact h
def f96_G0 : List TV→List Entry→(TV→List Entry→Prop)→Prop:=fun tm hp K=>getS [.v (.one (.ref 0)),.v (.one (.int .i64)),.v (.one (.int .i64)),.v (.one (.int .i64)),.v (.clo 41 [] [.ptr 1 0 0])] [.vec 1 true,.box [.sl 15]] tm hp fun (xx : ((Nat×Nat)×(Int×(Int×(Int×((Unit×(Unit×Unit))×Unit)))))) (yy : ((LL)×(((LL×Bool)×Unit)×Unit)))=>f96 xx.1.1 xx.1.2 xx.2.1 xx.2.2.1 xx.2.2.2.1 yy.1 yy.2.1.1.1 yy.2.1.1.2 (fun es0_1 es0_2 full0_3=>K undefT [.vec 1 es0_1 true,.box [.p (.sl 15 es0_2 full0_3)]])
theorem f96_eq (i_23 n_24 : Nat) (n_25 n_26 n_27 : Int) (es_28 es_29 : LL) (full_30 : Bool) (K : TV→List Entry→Prop) : (f96_d i_23 n_24 n_25 n_26 n_27 es_28 es_29 full_30 (fun es0_1 es0_2 full0_3=>K undefT [.vec 1 es0_1 true,.box [.p (.sl 15 es0_2 full0_3)]])) = funcT f96_C Tryd.f96 [.w (.one (.ref 0 i_23 n_24)),I n_25,I n_26,I n_27,.w (.one (.clo 41 [] [.ptr 1 0 0]))] [.vec 1 es_28 true,.box [.p (.sl 15 es_29 full_30)]] K:=by kernel_rfl
set_option maxHeartbeats 4000000 in
theorem f96_ok0 : FnOk Tryd.prog glob 96 f96_G0:=by
  refine FnOk.of_text (C:=f96_C) tab_ok.ok (Known.none) follows_ok (fn:=Tryd.f96) (by kernel_rfl) (by kernel_rfl) (by kernel_rfl) (fun c hc=>?_) fun tm hp K h=>?_
  · have e : c = bodyOf Tryd.f96:=Option.some.inj (hc.symm.trans (by kernel_rfl))
    subst e
    exact ⟨LoopsOk.of [bd Tryd.f96 0] (by kernel_rfl) ⟨f96_p2_ok,trivial⟩,TailsOk.of (tab:=f96_tab) rfl [] (by kernel_rfl) trivial⟩
  · unfold f96_G0 at h
    obtain ⟨xx,yy,rfl,rfl,h⟩:=getS_elim h
    have e:=(f96_eq xx.1.1 xx.1.2 xx.2.1 xx.2.2.1 xx.2.2.2.1 yy.1 yy.2.1.1.1 yy.2.1.1.2 K).trans (show _ = funcT f96_C Tryd.f96 (mkR _ xx) (mkE _ yy) K by kernel_rfl)
    rw [← e]
    exact h.run
abbrev f96_G:=f96_G0
theorem f96_G_ok : FnOk Tryd.prog glob 96 f96_G:=f96_ok0
def f30_d (n1 n2 : Int) (k0 : Bool→Prop) : Prop:=bB (decide (n1≥0)) (k0 (decide (n1≤n2))) (k0 false)
structure f30 (n1 n2 : Int) (k0 : Bool→Prop) : Prop where
  run : f30_d n1 n2 k0
def f30_tab : List (Nat×Told):=[]
def f30_call : FuncId→List TV→List Entry→(TV→List Entry→Prop)→Prop:=noCalls
def f30_C : Ctx:=mkC [] [] [] [] [] false 0 true (lookL f30_tab) f30_call
def f30_G0 : List TV→List Entry→(TV→List Entry→Prop)→Prop:=fun tm hp K=>getS [.v (.one (.int .i64)),.v (.one (.int .i64))] [] tm hp fun (xx : (Int×(Int×Unit))) (yy : Unit)=>f30 xx.1 xx.2.1 (fun b0_0=>K (B b0_0) [])
theorem f30_eq (n_1 n_2 : Int) (K : TV→List Entry→Prop) : (f30_d n_1 n_2 (fun b0_0=>K (B b0_0) [])) = funcT f30_C Tryd.f30 [I n_1,I n_2] [] K:=by kernel_rfl
set_option maxHeartbeats 4000000 in
theorem f30_ok0 : FnOk Tryd.prog glob 30 f30_G0:=by
  refine FnOk.of_text (C:=f30_C) tab_ok.ok (Known.none) follows_ok (fn:=Tryd.f30) (by kernel_rfl) (by kernel_rfl) (by kernel_rfl) (fun c hc=>?_) fun tm hp K h=>?_
  · have e : c = bodyOf Tryd.f30:=Option.some.inj (hc.symm.trans (by kernel_rfl))
    subst e
    exact ⟨LoopsOk.of [] (by kernel_rfl) trivial,TailsOk.of (tab:=f30_tab) rfl [] (by kernel_rfl) trivial⟩
  · unfold f30_G0 at h
    obtain ⟨xx,yy,rfl,rfl,h⟩:=getS_elim h
    have e:=(f30_eq xx.1 xx.2.1 K).trans (show _ = funcT f30_C Tryd.f30 (mkR _ xx) (mkE _ yy) K by kernel_rfl)
    rw [← e]
    exact h.run
abbrev f30_G:=f30_G0
theorem f30_G_ok : FnOk Tryd.prog glob 30 f30_G:=f30_ok0
def f31_d (n1 n2 : Int) (n3 n4 : Int) (n5 n6 : Int) (n7 n8 : Int) (n9 n10 n11 : Int) (k0 : Bool→Prop) : Prop:=bB (!((n6 == 0) && ((n7 == 0) && ((n8 == 0) && true)))) (k0 true) (k0 (!((n9 == 0) && ((n10 == 0) && ((n11 == 0) && true)))))
structure f31 (n1 n2 : Int) (n3 n4 : Int) (n5 n6 : Int) (n7 n8 : Int) (n9 n10 n11 : Int) (k0 : Bool→Prop) : Prop where
  run : f31_d n1 n2 n3 n4 n5 n6 n7 n8 n9 n10 n11 k0
def f31_tab : List (Nat×Told):=[]
def f31_call : FuncId→List TV→List Entry→(TV→List Entry→Prop)→Prop:=noCalls
def f31_C : Ctx:=mkC [] [] [] [] [] false 0 true (lookL f31_tab) f31_call
def f31_G0 : List TV→List Entry→(TV→List Entry→Prop)→Prop:=fun tm hp K=>getS [.v (.pagg [.int .i64,.int .i64,.int .i64,.int .i64,.int .i64,.int .i64,.int .i64,.int .i64,.int .i64,.int .i64,.int .i64])] [] tm hp fun (xx : ((Int×(Int×(Int×(Int×(Int×(Int×(Int×(Int×(Int×(Int×(Int×Unit)))))))))))×Unit)) (yy : Unit)=>f31 xx.1.1 xx.1.2.1 xx.1.2.2.1 xx.1.2.2.2.1 xx.1.2.2.2.2.1 xx.1.2.2.2.2.2.1 xx.1.2.2.2.2.2.2.1 xx.1.2.2.2.2.2.2.2.1 xx.1.2.2.2.2.2.2.2.2.1 xx.1.2.2.2.2.2.2.2.2.2.1 xx.1.2.2.2.2.2.2.2.2.2.2.1 (fun b0_0=>K (B b0_0) [])
theorem f31_eq (n_1 n_2 : Int) (n_3 n_4 : Int) (n_5 n_6 : Int) (n_7 n_8 : Int) (n_9 n_10 n_11 : Int) (K : TV→List Entry→Prop) : (f31_d n_1 n_2 n_3 n_4 n_5 n_6 n_7 n_8 n_9 n_10 n_11 (fun b0_0=>K (B b0_0) [])) = funcT f31_C Tryd.f31 [.w (.pagg [pI n_1,pI n_2,pI n_3,pI n_4,pI n_5,pI n_6,pI n_7,pI n_8,pI n_9,pI n_10,pI n_11])] [] K:=by kernel_rfl
set_option maxHeartbeats 4000000 in
theorem f31_ok0 : FnOk Tryd.prog glob 31 f31_G0:=by
  refine FnOk.of_text (C:=f31_C) tab_ok.ok (Known.none) follows_ok (fn:=Tryd.f31) (by kernel_rfl) (by kernel_rfl) (by kernel_rfl) (fun c hc=>?_) fun tm hp K h=>?_
  · have e : c = bodyOf Tryd.f31:=Option.some.inj (hc.symm.trans (by kernel_rfl))
    subst e
    exact ⟨LoopsOk.of [] (by kernel_rfl) trivial,TailsOk.of (tab:=f31_tab) rfl [] (by kernel_rfl) trivial⟩
  · unfold f31_G0 at h
    obtain ⟨xx,yy,rfl,rfl,h⟩:=getS_elim h
    have e:=(f31_eq xx.1.1 xx.1.2.1 xx.1.2.2.1 xx.1.2.2.2.1 xx.1.2.2.2.2.1 xx.1.2.2.2.2.2.1 xx.1.2.2.2.2.2.2.1 xx.1.2.2.2.2.2.2.2.1 xx.1.2.2.2.2.2.2.2.2.1 xx.1.2.2.2.2.2.2.2.2.2.1 xx.1.2.2.2.2.2.2.2.2.2.2.1 K).trans (show _ = funcT f31_C Tryd.f31 (mkR _ xx) (mkE _ yy) K by kernel_rfl)
    rw [← e]
    exact h.run
abbrev f31_G:=f31_G0
theorem f31_G_ok : FnOk Tryd.prog glob 31 f31_G:=f31_ok0
def f78_d (n1 : Int) (k0 : Bool→Prop) : Prop:=(4 : Int)≠0∧bB ((Int.tmod n1 4) == 0) ((100 : Int)≠0∧bB ((Int.tmod n1 100) != 0) (k0 true) ((400 : Int)≠0∧k0 ((Int.tmod n1 400) == 0))) ((400 : Int)≠0∧k0 ((Int.tmod n1 400) == 0))
structure f78 (n1 : Int) (k0 : Bool→Prop) : Prop where
  run : f78_d n1 k0
def f78_tab : List (Nat×Told):=[]
def f78_call : FuncId→List TV→List Entry→(TV→List Entry→Prop)→Prop:=noCalls
def f78_C : Ctx:=mkC [] [] [] [] [] false 0 true (lookL f78_tab) f78_call
def f78_G0 : List TV→List Entry→(TV→List Entry→Prop)→Prop:=fun tm hp K=>getS [.v (.one (.int .i64))] [] tm hp fun (xx : (Int×Unit)) (yy : Unit)=>f78 xx.1 (fun b0_0=>K (B b0_0) [])
theorem f78_eq (n_1 : Int) (K : TV→List Entry→Prop) : (f78_d n_1 (fun b0_0=>K (B b0_0) [])) = funcT f78_C Tryd.f78 [I n_1] [] K:=by kernel_rfl
set_option maxHeartbeats 4000000 in
theorem f78_ok0 : FnOk Tryd.prog glob 78 f78_G0:=by
  refine FnOk.of_text (C:=f78_C) tab_ok.ok (Known.none) follows_ok (fn:=Tryd.f78) (by kernel_rfl) (by kernel_rfl) (by kernel_rfl) (fun c hc=>?_) fun tm hp K h=>?_
  · have e : c = bodyOf Tryd.f78:=Option.some.inj (hc.symm.trans (by kernel_rfl))
    subst e
    exact ⟨LoopsOk.of [] (by kernel_rfl) trivial,TailsOk.of (tab:=f78_tab) rfl [] (by kernel_rfl) trivial⟩
  · unfold f78_G0 at h
    obtain ⟨xx,yy,rfl,rfl,h⟩:=getS_elim h
    have e:=(f78_eq xx.1 K).trans (show _ = funcT f78_C Tryd.f78 (mkR _ xx) (mkE _ yy) K by kernel_rfl)
    rw [← e]
    exact h.run
abbrev f78_G:=f78_G0
theorem f78_G_ok : FnOk Tryd.prog glob 78 f78_G:=f78_ok0
def f46_d (n1 n2 : Int) (k0 : Int→Prop) : Prop:=bB (decide (n2 < 1)) (k0 0) (bB (decide (n2 > 12)) (k0 0) (bB (n2 == 2) (f78 n1 (fun b3=>bB b3 (k0 29) ((0≤n2∧n2 < 13)∧oI .i64 (ext [pI 0,pI 31,pI 28,pI 31,pI 30,pI 31,pI 30,pI 31,pI 31,pI 30,pI 31,pI 30,pI 31] (0 + ((Int.toNat n2) * 1)) 1) fun n4=>k0 n4))) ((0≤n2∧n2 < 13)∧oI .i64 (ext [pI 0,pI 31,pI 28,pI 31,pI 30,pI 31,pI 30,pI 31,pI 31,pI 30,pI 31,pI 30,pI 31] (0 + ((Int.toNat n2) * 1)) 1) fun n5=>k0 n5)))
structure f46 (n1 n2 : Int) (k0 : Int→Prop) : Prop where
  run : f46_d n1 n2 k0
def f46_tab : List (Nat×Told):=[]
def f46_call : FuncId→List TV→List Entry→(TV→List Entry→Prop)→Prop:=addCall 78 f78_G (noCalls)
def f46_C : Ctx:=mkC [] [] [] [] [] false 0 true (lookL f46_tab) f46_call
def f46_G0 : List TV→List Entry→(TV→List Entry→Prop)→Prop:=fun tm hp K=>getS [.v (.one (.int .i64)),.v (.one (.int .i64))] [] tm hp fun (xx : (Int×(Int×Unit))) (yy : Unit)=>f46 xx.1 xx.2.1 (fun n0_0=>K (I n0_0) [])
theorem f46_eq (n_1 n_2 : Int) (K : TV→List Entry→Prop) : (f46_d n_1 n_2 (fun n0_0=>K (I n0_0) [])) = funcT f46_C Tryd.f46 [I n_1,I n_2] [] K:=by kernel_rfl
set_option maxHeartbeats 4000000 in
theorem f46_ok0 : FnOk Tryd.prog glob 46 f46_G0:=by
  refine FnOk.of_text (C:=f46_C) tab_ok.ok (Known.add f78_G_ok (Known.none)) follows_ok (fn:=Tryd.f46) (by kernel_rfl) (by kernel_rfl) (by kernel_rfl) (fun c hc=>?_) fun tm hp K h=>?_
  · have e : c = bodyOf Tryd.f46:=Option.some.inj (hc.symm.trans (by kernel_rfl))
    subst e
    exact ⟨LoopsOk.of [] (by kernel_rfl) trivial,TailsOk.of (tab:=f46_tab) rfl [] (by kernel_rfl) trivial⟩
  · unfold f46_G0 at h
    obtain ⟨xx,yy,rfl,rfl,h⟩:=getS_elim h
    have e:=(f46_eq xx.1 xx.2.1 K).trans (show _ = funcT f46_C Tryd.f46 (mkR _ xx) (mkE _ yy) K by kernel_rfl)
    rw [← e]
    exact h.run
abbrev f46_G:=f46_G0
theorem f46_G_ok : FnOk Tryd.prog glob 46 f46_G:=f46_ok0
def f32_d (n1 n2 n3 : Int) (k0 : Int→Prop) : Prop:=bB (decide (n1 < 2000)) (k0 1) (bB (decide (n1 > 2199)) (k0 1) (bB (decide (n3 < 1)) (k0 6) (f46 n1 n2 (fun n4=>bB (decide (n3 > n4)) (k0 6) (k0 0)))))
structure f32 (n1 n2 n3 : Int) (k0 : Int→Prop) : Prop where
  run : f32_d n1 n2 n3 k0
def f32_tab : List (Nat×Told):=[]
def f32_call : FuncId→List TV→List Entry→(TV→List Entry→Prop)→Prop:=addCall 46 f46_G (noCalls)
def f32_C : Ctx:=mkC [] [] [] [] [] false 0 true (lookL f32_tab) f32_call
def f32_G0 : List TV→List Entry→(TV→List Entry→Prop)→Prop:=fun tm hp K=>getS [.v (.pagg [.int .i64,.int .i64,.int .i64])] [] tm hp fun (xx : ((Int×(Int×(Int×Unit)))×Unit)) (yy : Unit)=>f32 xx.1.1 xx.1.2.1 xx.1.2.2.1 (fun n0_0=>K (I n0_0) [])
theorem f32_eq (n_1 n_2 n_3 : Int) (K : TV→List Entry→Prop) : (f32_d n_1 n_2 n_3 (fun n0_0=>K (I n0_0) [])) = funcT f32_C Tryd.f32 [.w (.pagg [pI n_1,pI n_2,pI n_3])] [] K:=by kernel_rfl
set_option maxHeartbeats 4000000 in
theorem f32_ok0 : FnOk Tryd.prog glob 32 f32_G0:=by
  refine FnOk.of_text (C:=f32_C) tab_ok.ok (Known.add f46_G_ok (Known.none)) follows_ok (fn:=Tryd.f32) (by kernel_rfl) (by kernel_rfl) (by kernel_rfl) (fun c hc=>?_) fun tm hp K h=>?_
  · have e : c = bodyOf Tryd.f32:=Option.some.inj (hc.symm.trans (by kernel_rfl))
    subst e
    exact ⟨LoopsOk.of [] (by kernel_rfl) trivial,TailsOk.of (tab:=f32_tab) rfl [] (by kernel_rfl) trivial⟩
  · unfold f32_G0 at h
    obtain ⟨xx,yy,rfl,rfl,h⟩:=getS_elim h
    have e:=(f32_eq xx.1.1 xx.1.2.1 xx.1.2.2.1 K).trans (show _ = funcT f32_C Tryd.f32 (mkR _ xx) (mkE _ yy) K by kernel_rfl)
    rw [← e]
    exact h.run
abbrev f32_G:=f32_G0
theorem f32_G_ok : FnOk Tryd.prog glob 32 f32_G:=f32_ok0
def f47_d (n1 : Int) (k0 : Int→Prop) : Prop:=(4 : Int)≠0∧(100 : Int)≠0∧(400 : Int)≠0∧k0 (w64 ((w64 (365 * (w64 (n1 - 2000)))) + (w64 ((w64 ((w64 ((w64 (Int.tdiv (w64 (n1 - 1)) 4)) - (w64 (Int.tdiv (w64 (n1 - 1)) 100)))) + (w64 (Int.tdiv (w64 (n1 - 1)) 400)))) - 484))))
structure f47 (n1 : Int) (k0 : Int→Prop) : Prop where
  run : f47_d n1 k0
def f47_tab : List (Nat×Told):=[]
def f47_call : FuncId→List TV→List Entry→(TV→List Entry→Prop)→Prop:=noCalls
def f47_C : Ctx:=mkC [] [] [] [] [] false 0 true (lookL f47_tab) f47_call
def f47_G0 : List TV→List Entry→(TV→List Entry→Prop)→Prop:=fun tm hp K=>getS [.v (.one (.int .i64))] [] tm hp fun (xx : (Int×Unit)) (yy : Unit)=>f47 xx.1 (fun n0_0=>K (I n0_0) [])
theorem f47_eq (n_1 : Int) (K : TV→List Entry→Prop) : (f47_d n_1 (fun n0_0=>K (I n0_0) [])) = funcT f47_C Tryd.f47 [I n_1] [] K:=by kernel_rfl
set_option maxHeartbeats 4000000 in
theorem f47_ok0 : FnOk Tryd.prog glob 47 f47_G0:=by
  refine FnOk.of_text (C:=f47_C) tab_ok.ok (Known.none) follows_ok (fn:=Tryd.f47) (by kernel_rfl) (by kernel_rfl) (by kernel_rfl) (fun c hc=>?_) fun tm hp K h=>?_
  · have e : c = bodyOf Tryd.f47:=Option.some.inj (hc.symm.trans (by kernel_rfl))
    subst e
    exact ⟨LoopsOk.of [] (by kernel_rfl) trivial,TailsOk.of (tab:=f47_tab) rfl [] (by kernel_rfl) trivial⟩
  · unfold f47_G0 at h
    obtain ⟨xx,yy,rfl,rfl,h⟩:=getS_elim h
    have e:=(f47_eq xx.1 K).trans (show _ = funcT f47_C Tryd.f47 (mkR _ xx) (mkE _ yy) K by kernel_rfl)
    rw [← e]
    exact h.run
abbrev f47_G:=f47_G0
theorem f47_G_ok : FnOk Tryd.prog glob 47 f47_G:=f47_ok0
def f33_p12b0 (n6 n7 : Int) (n8 n9 n10 : Int) (N0 : Int→Int→Prop) (k0 : Int→Prop) : Prop:=bB (decide (n7 < n9)) (f46 n8 n7 (fun n11=>N0 (w64 (n6 + n11)) (w64 (n7 + 1)))) (k0 n6)
def f33_p12 (n8 n9 n10 : Int) (k0 : Int→Prop) : Int×Int→Prop:=LoopP fun x N=>f33_p12b0 x.1 x.2 n8 n9 n10 (fun n6 n7=>N (n6,n7)) k0
def f33_d (n1 n2 n3 : Int) (k0 : Int→Int→Prop) : Prop:=f32 n1 n2 n3 (fun n4=>bB (n4 != 0) (k0 0 n4) (f47 n1 (fun n5=>f33_p12 n1 n2 n3 (fun n12=>k0 n12 0) ((w64 ((w64 (n5 + n3)) - 1)),1))))
structure f33 (n1 n2 n3 : Int) (k0 : Int→Int→Prop) : Prop where
  run : f33_d n1 n2 n3 k0
def f33_p12L : Told:=fun s K=>match s with
  | ⟨tm,hp⟩=>getS [.skip 1,.v (.one (.ptr 0 0 0)),.skip 3,.v (.one (.int .i64)),.v (.one (.int .i64)),.skip 25] [.box [.int .i64,.int .i64,.int .i64]] tm hp fun (xx : (Unit×(Unit×(Unit×(Int×(Int×(Unit×Unit))))))) (yy : ((Int×(Int×(Int×Unit)))×Unit))=>f33_p12 yy.1.1 yy.1.2.1 yy.1.2.2.1 (fun n0_0=>K (.exit 0) ⟨mkS 32 [(5,I n0_0)],[]⟩) (xx.2.2.2.1,xx.2.2.2.2.1)
def f33_tab : List (Nat×Told):=[(12,f33_p12L)]
def f33_call : FuncId→List TV→List Entry→(TV→List Entry→Prop)→Prop:=addCall 47 f47_G (addCall 46 f46_G (addCall 32 f32_G (noCalls)))
def f33_C : Ctx:=mkC [(12,[(0,[1,5,6]),(2,[2,3]),(3,[5])])] [] [] [] [] false 0 true (lookL f33_tab) f33_call
def f33_p12_mk (n8 n9 n10 : Int) (x : Int×Int) : St:=⟨mkS 32 [(1,.w (.one (.ptr 0 0 0))),(5,I x.1),(6,I x.2)],[.box [.p (pI n8),.p (pI n9),.p (pI n10)]]⟩
theorem f33_p12e0 (n_8 n_9 : Int) (n_10 n_11 n_12 : Int) (N : St→Prop) (K : TExit→St→Prop) : (f33_p12b0 n_8 n_9 n_10 n_11 n_12 (fun z0 z1=>N (f33_p12_mk n_10 n_11 n_12 (z0,z1))) (fun n0_13=>K (.exit 0) ⟨mkS 32 [(5,I n0_13)],[]⟩)) = execT f33_C (bd Tryd.f33 0) (f33_p12_mk n_10 n_11 n_12 (n_8,n_9)) (loopK N (normK f33_C 12) fun e s=>K e (normOut f33_C 12 e s)):=by kernel_rfl
set_option maxHeartbeats 4000000 in
theorem f33_p12_ok : LoopOk f33_C (bd Tryd.f33 0):=by
  refine LoopOk.of f33_p12L (by kernel_rfl) fun σ K h=>?_
  have hk : loopKey (bd Tryd.f33 0) = 12:=by kernel_rfl
  rw [hk] at h ⊢
  generalize hs : normK f33_C 12 σ = s at h
  obtain ⟨tm,hp⟩:=s
  unfold f33_p12L at h
  dsimp only at h
  obtain ⟨xx,yy,rfl,rfl,h⟩:=getS_elim h
  refine iter_of (f33_p12_mk yy.1.1 yy.1.2.1 yy.1.2.2.1) (fun x N h=>?_) rounds _ σ (hs.trans (by kernel_rfl)) (LoopP.run h)
  obtain ⟨y0,y1⟩:=x
  rw [← f33_p12e0 y0 y1 yy.1.1 yy.1.2.1 yy.1.2.2.1 N K]
  exact h
def f33_G0 : List TV→List Entry→(TV→List Entry→Prop)→Prop:=fun tm hp K=>getS [.v (.pagg [.int .i64,.int .i64,.int .i64])] [] tm hp fun (xx : ((Int×(Int×(Int×Unit)))×Unit)) (yy : Unit)=>f33 xx.1.1 xx.1.2.1 xx.1.2.2.1 (fun n0_1 n0_2=>K (.tup [.one (.p (pI n0_1)),.one (.p (pI n0_2))]) [])
theorem f33_eq (n_14 n_15 n_16 : Int) (K : TV→List Entry→Prop) : (f33_d n_14 n_15 n_16 (fun n0_1 n0_2=>K (.tup [.one (.p (pI n0_1)),.one (.p (pI n0_2))]) [])) = funcT f33_C Tryd.f33 [.w (.pagg [pI n_14,pI n_15,pI n_16])] [] K:=by kernel_rfl
set_option maxHeartbeats 4000000 in
theorem f33_ok0 : FnOk Tryd.prog glob 33 f33_G0:=by
  refine FnOk.of_text (C:=f33_C) tab_ok.ok (Known.add f47_G_ok (Known.add f46_G_ok (Known.add f32_G_ok (Known.none)))) follows_ok (fn:=Tryd.f33) (by kernel_rfl) (by kernel_rfl) (by kernel_rfl) (fun c hc=>?_) fun tm hp K h=>?_
  · have e : c = bodyOf Tryd.f33:=Option.some.inj (hc.symm.trans (by kernel_rfl))
    subst e
    exact ⟨LoopsOk.of [bd Tryd.f33 0] (by kernel_rfl) ⟨f33_p12_ok,trivial⟩,TailsOk.of (tab:=f33_tab) rfl [] (by kernel_rfl) trivial⟩
  · unfold f33_G0 at h
    obtain ⟨xx,yy,rfl,rfl,h⟩:=getS_elim h
    have e:=(f33_eq xx.1.1 xx.1.2.1 xx.1.2.2.1 K).trans (show _ = funcT f33_C Tryd.f33 (mkR _ xx) (mkE _ yy) K by kernel_rfl)
    rw [← e]
    exact h.run
abbrev f33_G:=f33_G0
theorem f33_G_ok : FnOk Tryd.prog glob 33 f33_G:=f33_ok0
def f16_p20b0 (n32 n33 : Int) (n34 n35 : Int) (n36 n37 : Int) (n38 n39 : Int) (n40 n41 : Int) (n42 n43 : Int) (n44 n45 : Int) (n46 n47 : Int) (n48 n49 : Int) (cs50 : List PC) (N0 : Int→(List PC)→Prop) (k0 : Int→Prop) (k1 : (List PC)→Prop) : Prop:=bB (decide (n38 < 2)) ((0≤n38∧n38 < 2)∧cI .i64 (ext [pI n32,pI n33,pI n34,pI n35,pI n36,pI n37] ((Int.toNat n38) * 3) 3) fun n52 r51=>cI .i64 r51 fun n54 r53=>cI .i64 r53 fun n56 r55=>nilC r55 <| bB ((n52 == 0) && ((n54 == 0) && ((n56 == 0) && true))) (N0 (w64 (n38 + 1)) cs50) (f32 n52 n54 n56 (fun n57=>bB (n57 != 0) (k0 n57) (f33 n52 n54 n56 (fun n58 n59=>(0≤n38∧n38 < 2)∧1 = 1∧((0 + ((Int.toNat n38) * 1)) + 1)≤cs50.length∧N0 (w64 (n38 + 1)) (splice cs50 (0 + ((Int.toNat n38) * 1)) [pI n58])))))) (k1 cs50)
def f16_p20 (n32 n33 : Int) (n34 n35 : Int) (n36 n37 : Int) (n39 n40 : Int) (n41 n42 : Int) (n43 n44 : Int) (n45 n46 : Int) (n47 n48 n49 : Int) (k0 : Int→Prop) (k1 : (List PC)→Prop) : Int×(List PC)→Prop:=LoopP fun x N=>f16_p20b0 n32 n33 n34 n35 n36 n37 x.1 n39 n40 n41 n42 n43 n44 n45 n46 n47 n48 n49 x.2 (fun n38 cs50=>N (n38,cs50)) k0 k1
def f16_p17 (n21 n22 : Int) (n23 n24 : Int) (n25 n26 : Int) (n27 n28 : Int) (n29 n30 n31 : Int) (k0 : Int→Prop) : Prop:=2 = 2∧2≤2∧f16_p20 n26 n27 n28 n29 n30 n31 n21 n22 n23 n24 n25 n26 n27 n28 n29 n30 n31 k0 (fun cs61=>bB (!((n29 == 0) && ((n30 == 0) && ((n31 == 0) && true)))) ((0≤(0 : Int)∧(0 : Int) < 2)∧oI .i64 (ext cs61 0 1) fun n62=>(0≤(1 : Int)∧(1 : Int) < 2)∧oI .i64 (ext cs61 1 1) fun n63=>bB (decide (n62 > n63)) (k0 6) (k0 0)) (k0 0)) (0,[pI 0,pI 73048])
def f16_d (n1 n2 : Int) (n3 n4 : Int) (n5 n6 : Int) (n7 n8 : Int) (n9 n10 n11 : Int) (k0 : Int→Prop) : Prop:=f31 n1 n2 n3 n4 n5 n6 n7 n8 n9 n10 n11 (fun b12=>bB (!b12) (bB (n1 != 0) (bB (decide (n1 < 2000)) (k0 6) (bB (decide (n1 > 2199)) (k0 6) (f30 n2 14 (fun b13=>bB (!b13) (k0 6) (f30 n3 34 (fun b14=>bB (!b14) (k0 6) (f30 n4 7 (fun b15=>bB (!b15) (k0 6) (f30 n5 6 (fun b16=>bB (!b16) (k0 6) (k0 0))))))))))) (f30 n2 14 (fun b17=>bB (!b17) (k0 6) (f30 n3 34 (fun b18=>bB (!b18) (k0 6) (f30 n4 7 (fun b19=>bB (!b19) (k0 6) (f30 n5 6 (fun b20=>bB (!b20) (k0 6) (k0 0)))))))))) (bB (n1 != 0) (k0 10) (bB (n2 != 0) (k0 10) (bB (n3 != 0) (k0 10) (bB (n4 != 0) (k0 10) (bB (n5 != 0) (k0 10) (f16_p17 n1 n2 n3 n4 n5 n6 n7 n8 n9 n10 n11 k0)))))))
structure f16 (n1 n2 : Int) (n3 n4 : Int) (n5 n6 : Int) (n7 n8 : Int) (n9 n10 n11 : Int) (k0 : Int→Prop) : Prop where
  run : f16_d n1 n2 n3 n4 n5 n6 n7 n8 n9 n10 n11 k0
def f16_p20L : Told:=fun s K=>match s with
  | ⟨tm,hp⟩=>getS [.skip 1,.v (.one (.ptr 0 0 0)),.skip 2,.v (.one (.ptr 1 0 0)),.skip 75,.v (.pagg [.int .i64,.int .i64,.int .i64,.int .i64,.int .i64,.int .i64]),.v (.one (.int .i64)),.skip 30] [.box [.int .i64,.int .i64,.int .i64,.int .i64,.int .i64,.int .i64,.int .i64,.int .i64,.int .i64,.int .i64,.int .i64],.pbox] tm hp fun (xx : (Unit×(Unit×(Unit×(Unit×(Unit×((Int×(Int×(Int×(Int×(Int×(Int×Unit))))))×(Int×(Unit×Unit))))))))) (yy : ((Int×(Int×(Int×(Int×(Int×(Int×(Int×(Int×(Int×(Int×(Int×Unit)))))))))))×((List PC)×Unit)))=>f16_p20 xx.2.2.2.2.2.1.1 xx.2.2.2.2.2.1.2.1 xx.2.2.2.2.2.1.2.2.1 xx.2.2.2.2.2.1.2.2.2.1 xx.2.2.2.2.2.1.2.2.2.2.1 xx.2.2.2.2.2.1.2.2.2.2.2.1 yy.1.1 yy.1.2.1 yy.1.2.2.1 yy.1.2.2.2.1 yy.1.2.2.2.2.1 yy.1.2.2.2.2.2.1 yy.1.2.2.2.2.2.2.1 yy.1.2.2.2.2.2.2.2.1 yy.1.2.2.2.2.2.2.2.2.1 yy.1.2.2.2.2.2.2.2.2.2.1 yy.1.2.2.2.2.2.2.2.2.2.2.1 (fun n0_0=>K .ret ⟨mkS 112 [(2,I n0_0)],[]⟩) (fun cs1_1=>K (.exit 0) ⟨mkS 112 [(1,.w (.one (.ptr 0 0 0))),(4,.w (.one (.ptr 1 0 0)))],[.box [.p (pI yy.1.1),.p (pI yy.1.2.1),.p (pI yy.1.2.2.1),.p (pI yy.1.2.2.2.1),.p (pI yy.1.2.2.2.2.1),.p (pI yy.1.2.2.2.2.2.1),.p (pI yy.1.2.2.2.2.2.2.1),.p (pI yy.1.2.2.2.2.2.2.2.1),.p (pI yy.1.2.2.2.2.2.2.2.2.1),.p (pI yy.1.2.2.2.2.2.2.2.2.2.1),.p (pI yy.1.2.2.2.2.2.2.2.2.2.2.1)],.pbox cs1_1]⟩) (xx.2.2.2.2.2.2.1,yy.2.1)
def f16_p17L : Told:=fun s K=>match s with
  | ⟨tm,hp⟩=>getS [.skip 1,.v (.one (.ptr 0 0 0)),.skip 110] [.box [.int .i64,.int .i64,.int .i64,.int .i64,.int .i64,.int .i64,.int .i64,.int .i64,.int .i64,.int .i64,.int .i64]] tm hp fun (xx : (Unit×(Unit×(Unit×Unit)))) (yy : ((Int×(Int×(Int×(Int×(Int×(Int×(Int×(Int×(Int×(Int×(Int×Unit)))))))))))×Unit))=>f16_p17 yy.1.1 yy.1.2.1 yy.1.2.2.1 yy.1.2.2.2.1 yy.1.2.2.2.2.1 yy.1.2.2.2.2.2.1 yy.1.2.2.2.2.2.2.1 yy.1.2.2.2.2.2.2.2.1 yy.1.2.2.2.2.2.2.2.2.1 yy.1.2.2.2.2.2.2.2.2.2.1 yy.1.2.2.2.2.2.2.2.2.2.2.1 (fun n0_2=>K .ret ⟨mkS 112 [(2,I n0_2)],[]⟩)
def f16_tab : List (Nat×Told):=[(20,f16_p20L),(17,f16_p17L)]
def f16_call : FuncId→List TV→List Entry→(TV→List Entry→Prop)→Prop:=addCall 33 f33_G (addCall 32 f32_G (addCall 31 f31_G (addCall 30 f30_G (noCalls))))
def f16_C : Ctx:=mkC [(20,[(0,[1,4,80,81]),(2,[2]),(3,[1,4])]),(17,[(0,[1]),(1,[2]),(2,[2])])] [] [] [] [] false 0 true (lookL f16_tab) f16_call
def f16_p20_mk (n32 n33 : Int) (n34 n35 : Int) (n36 n37 : Int) (n39 n40 : Int) (n41 n42 : Int) (n43 n44 : Int) (n45 n46 : Int) (n47 n48 n49 : Int) (x : Int×(List PC)) : St:=⟨mkS 112 [(1,.w (.one (.ptr 0 0 0))),(4,.w (.one (.ptr 1 0 0))),(80,.w (.pagg [pI n32,pI n33,pI n34,pI n35,pI n36,pI n37])),(81,I x.1)],[.box [.p (pI n39),.p (pI n40),.p (pI n41),.p (pI n42),.p (pI n43),.p (pI n44),.p (pI n45),.p (pI n46),.p (pI n47),.p (pI n48),.p (pI n49)],.pbox x.2]⟩
theorem f16_p20e0 (n_23 n_24 : Int) (n_25 n_26 : Int) (n_27 n_28 : Int) (n_29 n_30 : Int) (n_31 n_32 : Int) (n_33 n_34 : Int) (n_35 n_36 : Int) (n_37 n_38 : Int) (n_39 n_40 : Int) (cs_41 : List PC) (N : St→Prop) (K : TExit→St→Prop) : (f16_p20b0 n_23 n_24 n_25 n_26 n_27 n_28 n_29 n_30 n_31 n_32 n_33 n_34 n_35 n_36 n_37 n_38 n_39 n_40 cs_41 (fun z6 z18=>N (f16_p20_mk n_23 n_24 n_25 n_26 n_27 n_28 n_30 n_31 n_32 n_33 n_34 n_35 n_36 n_37 n_38 n_39 n_40 (z6,z18))) (fun n0_42=>K .ret ⟨mkS 112 [(2,I n0_42)],[]⟩) (fun cs1_43=>K (.exit 0) ⟨mkS 112 [(1,.w (.one (.ptr 0 0 0))),(4,.w (.one (.ptr 1 0 0)))],[.box [.p (pI n_30),.p (pI n_31),.p (pI n_32),.p (pI n_33),.p (pI n_34),.p (pI n_35),.p (pI n_36),.p (pI n_37),.p (pI n_38),.p (pI n_39),.p (pI n_40)],.pbox cs1_43]⟩)) = execT f16_C (bd Tryd.f16 0) (f16_p20_mk n_23 n_24 n_25 n_26 n_27 n_28 n_30 n_31 n_32 n_33 n_34 n_35 n_36 n_37 n_38 n_39 n_40 (n_29,cs_41)) (loopK N (normK f16_C 20) fun e s=>K e (normOut f16_C 20 e s)):=by kernel_rfl
theorem f16_p17e0 (n_44 n_45 : Int) (n_46 n_47 : Int) (n_48 n_49 : Int) (n_50 n_51 : Int) (n_52 n_53 n_54 : Int) (K : TExit→St→Prop) : (f16_p17 n_44 n_45 n_46 n_47 n_48 n_49 n_50 n_51 n_52 n_53 n_54 (fun n0_55=>K .ret ⟨mkS 112 [(2,I n0_55)],[]⟩)) = execT f16_C (nthC (tails (bodyOf Tryd.f16)) 8) ⟨mkS 112 [(1,.w (.one (.ptr 0 0 0)))],[.box [.p (pI n_44),.p (pI n_45),.p (pI n_46),.p (pI n_47),.p (pI n_48),.p (pI n_49),.p (pI n_50),.p (pI n_51),.p (pI n_52),.p (pI n_53),.p (pI n_54)]]⟩ (fun e s=>K e (normOut f16_C 17 e s)):=by kernel_rfl
set_option maxHeartbeats 4000000 in
theorem f16_p20_ok : LoopOk f16_C (bd Tryd.f16 0):=by
  refine LoopOk.of f16_p20L (by kernel_rfl) fun σ K h=>?_
  have hk : loopKey (bd Tryd.f16 0) = 20:=by kernel_rfl
  rw [hk] at h ⊢
  generalize hs : normK f16_C 20 σ = s at h
  obtain ⟨tm,hp⟩:=s
  unfold f16_p20L at h
  dsimp only at h
  obtain ⟨xx,yy,rfl,rfl,h⟩:=getS_elim h
  refine iter_of (f16_p20_mk xx.2.2.2.2.2.1.1 xx.2.2.2.2.2.1.2.1 xx.2.2.2.2.2.1.2.2.1 xx.2.2.2.2.2.1.2.2.2.1 xx.2.2.2.2.2.1.2.2.2.2.1 xx.2.2.2.2.2.1.2.2.2.2.2.1 yy.1.1 yy.1.2.1 yy.1.2.2.1 yy.1.2.2.2.1 yy.1.2.2.2.2.1 yy.1.2.2.2.2.2.1 yy.1.2.2.2.2.2.2.1 yy.1.2.2.2.2.2.2.2.1 yy.1.2.2.2.2.2.2.2.2.1 yy.1.2.2.2.2.2.2.2.2.2.1 yy.1.2.2.2.2.2.2.2.2.2.2.1) (fun x N h=>?_) rounds _ σ (hs.trans (by kernel_rfl)) (LoopP.run h)
  obtain ⟨y0,y1⟩:=x
  rw [← f16_p20e0 xx.2.2.2.2.2.1.1 xx.2.2.2.2.2.1.2.1 xx.2.2.2.2.2.1.2.2.1 xx.2.2.2.2.2.1.2.2.2.1 xx.2.2.2.2.2.1.2.2.2.2.1 xx.2.2.2.2.2.1.2.2.2.2.2.1 y0 yy.1.1 yy.1.2.1 yy.1.2.2.1 yy.1.2.2.2.1 yy.1.2.2.2.2.1 yy.1.2.2.2.2.2.1 yy.1.2.2.2.2.2.2.1 yy.1.2.2.2.2.2.2.2.1 yy.1.2.2.2.2.2.2.2.2.1 yy.1.2.2.2.2.2.2.2.2.2.1 yy.1.2.2.2.2.2.2.2.2.2.2.1 y1 N K]
  exact h
set_option maxHeartbeats 4000000 in
theorem f16_p17_ok : TailOk f16_C (nthC (tails (bodyOf Tryd.f16)) 8):=by
  refine TailOk.of f16_p17L (by kernel_rfl) fun σ K h=>?_
  have hk : joinKey (nthC (tails (bodyOf Tryd.f16)) 8) = 17:=by kernel_rfl
  rw [hk] at h ⊢
  generalize hs : normK f16_C 17 σ = s at h
  obtain ⟨tm,hp⟩:=s
  unfold f16_p17L at h
  dsimp only at h
  obtain ⟨xx,yy,rfl,rfl,h⟩:=getS_elim h
  have q : normK f16_C 17 σ = (⟨mkS 112 [(1,.w (.one (.ptr 0 0 0)))],[.box [.p (pI yy.1.1),.p (pI yy.1.2.1),.p (pI yy.1.2.2.1),.p (pI yy.1.2.2.2.1),.p (pI yy.1.2.2.2.2.1),.p (pI yy.1.2.2.2.2.2.1),.p (pI yy.1.2.2.2.2.2.2.1),.p (pI yy.1.2.2.2.2.2.2.2.1),.p (pI yy.1.2.2.2.2.2.2.2.2.1),.p (pI yy.1.2.2.2.2.2.2.2.2.2.1),.p (pI yy.1.2.2.2.2.2.2.2.2.2.2.1)]]⟩ : St):=hs.trans (by kernel_rfl)
  rw [← hs,q,← f16_p17e0 yy.1.1 yy.1.2.1 yy.1.2.2.1 yy.1.2.2.2.1 yy.1.2.2.2.2.1 yy.1.2.2.2.2.2.1 yy.1.2.2.2.2.2.2.1 yy.1.2.2.2.2.2.2.2.1 yy.1.2.2.2.2.2.2.2.2.1 yy.1.2.2.2.2.2.2.2.2.2.1 yy.1.2.2.2.2.2.2.2.2.2.2.1 K]
  exact h
def f16_G0 : List TV→List Entry→(TV→List Entry→Prop)→Prop:=fun tm hp K=>getS [.v (.pagg [.int .i64,.int .i64,.int .i64,.int .i64,.int .i64,.int .i64,.int .i64,.int .i64,.int .i64,.int .i64,.int .i64])] [] tm hp fun (xx : ((Int×(Int×(Int×(Int×(Int×(Int×(Int×(Int×(Int×(Int×(Int×Unit)))))))))))×Unit)) (yy : Unit)=>f16 xx.1.1 xx.1.2.1 xx.1.2.2.1 xx.1.2.2.2.1 xx.1.2.2.2.2.1 xx.1.2.2.2.2.2.1 xx.1.2.2.2.2.2.2.1 xx.1.2.2.2.2.2.2.2.1 xx.1.2.2.2.2.2.2.2.2.1 xx.1.2.2.2.2.2.2.2.2.2.1 xx.1.2.2.2.2.2.2.2.2.2.2.1 (fun n0_3=>K (I n0_3) [])
theorem f16_eq (n_56 n_57 : Int) (n_58 n_59 : Int) (n_60 n_61 : Int) (n_62 n_63 : Int) (n_64 n_65 n_66 : Int) (K : TV→List Entry→Prop) : (f16_d n_56 n_57 n_58 n_59 n_60 n_61 n_62 n_63 n_64 n_65 n_66 (fun n0_3=>K (I n0_3) [])) = funcT f16_C Tryd.f16 [.w (.pagg [pI n_56,pI n_57,pI n_58,pI n_59,pI n_60,pI n_61,pI n_62,pI n_63,pI n_64,pI n_65,pI n_66])] [] K:=by kernel_rfl
set_option maxHeartbeats 4000000 in
theorem f16_ok0 : FnOk Tryd.prog glob 16 f16_G0:=by
  refine FnOk.of_text (C:=f16_C) tab_ok.ok (Known.add f33_G_ok (Known.add f32_G_ok (Known.add f31_G_ok (Known.add f30_G_ok (Known.none))))) follows_ok (fn:=Tryd.f16) (by kernel_rfl) (by kernel_rfl) (by kernel_rfl) (fun c hc=>?_) fun tm hp K h=>?_
  · have e : c = bodyOf Tryd.f16:=Option.some.inj (hc.symm.trans (by kernel_rfl))
    subst e
    exact ⟨LoopsOk.of [bd Tryd.f16 0] (by kernel_rfl) ⟨f16_p20_ok,trivial⟩,TailsOk.of (tab:=f16_tab) rfl [nthC (tails (bodyOf Tryd.f16)) 8] (by kernel_rfl) ⟨f16_p17_ok,trivial⟩⟩
  · unfold f16_G0 at h
    obtain ⟨xx,yy,rfl,rfl,h⟩:=getS_elim h
    have e:=(f16_eq xx.1.1 xx.1.2.1 xx.1.2.2.1 xx.1.2.2.2.1 xx.1.2.2.2.2.1 xx.1.2.2.2.2.2.1 xx.1.2.2.2.2.2.2.1 xx.1.2.2.2.2.2.2.2.1 xx.1.2.2.2.2.2.2.2.2.1 xx.1.2.2.2.2.2.2.2.2.2.1 xx.1.2.2.2.2.2.2.2.2.2.2.1 K).trans (show _ = funcT f16_C Tryd.f16 (mkR _ xx) (mkE _ yy) K by kernel_rfl)
    rw [← e]
    exact h.run
abbrev f16_G:=f16_G0
theorem f16_G_ok : FnOk Tryd.prog glob 16 f16_G:=f16_ok0
def f49_d (n1 : Int) (k0 : Bool→Prop) : Prop:=bB (decide (n1≥0)) (k0 (decide (n1≤73048))) (k0 false)
structure f49 (n1 : Int) (k0 : Bool→Prop) : Prop where
  run : f49_d n1 k0
def f49_tab : List (Nat×Told):=[]
def f49_call : FuncId→List TV→List Entry→(TV→List Entry→Prop)→Prop:=noCalls
def f49_C : Ctx:=mkC [] [] [] [] [] false 0 true (lookL f49_tab) f49_call
def f49_G0 : List TV→List Entry→(TV→List Entry→Prop)→Prop:=fun tm hp K=>getS [.v (.one (.int .i64))] [] tm hp fun (xx : (Int×Unit)) (yy : Unit)=>f49 xx.1 (fun b0_0=>K (B b0_0) [])
theorem f49_eq (n_1 : Int) (K : TV→List Entry→Prop) : (f49_d n_1 (fun b0_0=>K (B b0_0) [])) = funcT f49_C Tryd.f49 [I n_1] [] K:=by kernel_rfl
set_option maxHeartbeats 4000000 in
theorem f49_ok0 : FnOk Tryd.prog glob 49 f49_G0:=by
  refine FnOk.of_text (C:=f49_C) tab_ok.ok (Known.none) follows_ok (fn:=Tryd.f49) (by kernel_rfl) (by kernel_rfl) (by kernel_rfl) (fun c hc=>?_) fun tm hp K h=>?_
  · have e : c = bodyOf Tryd.f49:=Option.some.inj (hc.symm.trans (by kernel_rfl))
    subst e
    exact ⟨LoopsOk.of [] (by kernel_rfl) trivial,TailsOk.of (tab:=f49_tab) rfl [] (by kernel_rfl) trivial⟩
  · unfold f49_G0 at h
    obtain ⟨xx,yy,rfl,rfl,h⟩:=getS_elim h
    have e:=(f49_eq xx.1 K).trans (show _ = funcT f49_C Tryd.f49 (mkR _ xx) (mkE _ yy) K by kernel_rfl)
    rw [← e]
    exact h.run
abbrev f49_G:=f49_G0
theorem f49_G_ok : FnOk Tryd.prog glob 49 f49_G:=f49_ok0
def f50_p11 (n15 n16 : Int) (n17 n18 : Int) (n19 n20 : Int) (n21 n22 : Int) (n23 n24 : Int) (n25 n26 n27 : Int) (k0 : Int→Prop) : Prop:=bB (!((n23 == 0) && ((n24 == 0) && ((n25 == 0) && true)))) (f33 n23 n24 n25 (fun n28 n29=>k0 n28)) (k0 n27)
def f50_d (n1 n2 : Int) (n3 n4 : Int) (n5 n6 : Int) (n7 n8 : Int) (n9 n10 n11 : Int) (k0 : Int→Int→Prop) (k1 : Int→Int→Int→Int→Int→Int→Int→Int→Int→Int→Int→Prop) : Prop:=f31 n1 n2 n3 n4 n5 n6 n7 n8 n9 n10 n11 (fun b12=>bB b12 (bB (!((n6 == 0) && ((n7 == 0) && ((n8 == 0) && true)))) (f33 n6 n7 n8 (fun n13 n14=>f50_p11 n1 n2 n3 n4 n5 n6 n7 n8 n9 n10 n11 n13 73048 (fun n30=>k0 n13 n30))) (f50_p11 n1 n2 n3 n4 n5 n6 n7 n8 n9 n10 n11 0 73048 (fun n31=>k0 0 n31))) (k1 n1 n2 n3 n4 n5 n6 n7 n8 n9 n10 n11))
structure f50 (n1 n2 : Int) (n3 n4 : Int) (n5 n6 : Int) (n7 n8 : Int) (n9 n10 n11 : Int) (k0 : Int→Int→Prop) (k1 : Int→Int→Int→Int→Int→Int→Int→Int→Int→Int→Int→Prop) : Prop where
  run : f50_d n1 n2 n3 n4 n5 n6 n7 n8 n9 n10 n11 k0 k1
def f50_p11L : Told:=fun s K=>match s with
  | ⟨tm,hp⟩=>getS [.skip 1,.v (.one (.ptr 0 0 0)),.skip 1,.v (.one (.ptr 1 0 0)),.v (.one (.ptr 2 0 0)),.skip 24] [.box [.int .i64,.int .i64,.int .i64,.int .i64,.int .i64,.int .i64,.int .i64,.int .i64,.int .i64,.int .i64,.int .i64],.box [.int .i64],.box [.int .i64]] tm hp fun (xx : (Unit×(Unit×(Unit×(Unit×(Unit×(Unit×Unit))))))) (yy : ((Int×(Int×(Int×(Int×(Int×(Int×(Int×(Int×(Int×(Int×(Int×Unit)))))))))))×((Int×Unit)×((Int×Unit)×Unit))))=>f50_p11 yy.1.1 yy.1.2.1 yy.1.2.2.1 yy.1.2.2.2.1 yy.1.2.2.2.2.1 yy.1.2.2.2.2.2.1 yy.1.2.2.2.2.2.2.1 yy.1.2.2.2.2.2.2.2.1 yy.1.2.2.2.2.2.2.2.2.1 yy.1.2.2.2.2.2.2.2.2.2.1 yy.1.2.2.2.2.2.2.2.2.2.2.1 yy.2.1.1 yy.2.2.1.1 (fun n0_0=>K .ret ⟨mkS 29 [(2,.w (.one (.clo 79 [] [.ptr 0 0 0,.ptr 1 0 0])))],[.box [.p (pI yy.2.1.1)],.box [.p (pI n0_0)]]⟩)
def f50_tab : List (Nat×Told):=[(11,f50_p11L)]
def f50_call : FuncId→List TV→List Entry→(TV→List Entry→Prop)→Prop:=addCall 33 f33_G (addCall 31 f31_G (noCalls))
def f50_C : Ctx:=mkC [(11,[(0,[1,3,4]),(1,[1]),(2,[2])])] [] [] [] [] true 0 false (lookL f50_tab) f50_call
theorem f50_p11e0 (n_14 n_15 : Int) (n_16 n_17 : Int) (n_18 n_19 : Int) (n_20 n_21 : Int) (n_22 n_23 : Int) (n_24 n_25 n_26 : Int) (K : TExit→St→Prop) : (f50_p11 n_14 n_15 n_16 n_17 n_18 n_19 n_20 n_21 n_22 n_23 n_24 n_25 n_26 (fun n0_27=>K .ret ⟨mkS 29 [(2,.w (.one (.clo 79 [] [.ptr 0 0 0,.ptr 1 0 0])))],[.box [.p (pI n_25)],.box [.p (pI n0_27)]]⟩)) = execT f50_C (nthC (tails (bodyOf Tryd.f50)) 4) ⟨mkS 29 [(1,.w (.one (.ptr 0 0 0))),(3,.w (.one (.ptr 1 0 0))),(4,.w (.one (.ptr 2 0 0)))],[.box [.p (pI n_14),.p (pI n_15),.p (pI n_16),.p (pI n_17),.p (pI n_18),.p (pI n_19),.p (pI n_20),.p (pI n_21),.p (pI n_22),.p (pI n_23),.p (pI n_24)],.box [.p (pI n_25)],.box [.p (pI n_26)]]⟩ (fun e s=>K e (normOut f50_C 11 e s)):=by kernel_rfl
set_option maxHeartbeats 4000000 in
theorem f50_p11_ok : TailOk f50_C (nthC (tails (bodyOf Tryd.f50)) 4):=by
  refine TailOk.of f50_p11L (by kernel_rfl) fun σ K h=>?_
  have hk : joinKey (nthC (tails (bodyOf Tryd.f50)) 4) = 11:=by kernel_rfl
  rw [hk] at h ⊢
  generalize hs : normK f50_C 11 σ = s at h
  obtain ⟨tm,hp⟩:=s
  unfold f50_p11L at h
  dsimp only at h
  obtain ⟨xx,yy,rfl,rfl,h⟩:=getS_elim h
  have q : normK f50_C 11 σ = (⟨mkS 29 [(1,.w (.one (.ptr 0 0 0))),(3,.w (.one (.ptr 1 0 0))),(4,.w (.one (.ptr 2 0 0)))],[.box [.p (pI yy.1.1),.p (pI yy.1.2.1),.p (pI yy.1.2.2.1),.p (pI yy.1.2.2.2.1),.p (pI yy.1.2.2.2.2.1),.p (pI yy.1.2.2.2.2.2.1),.p (pI yy.1.2.2.2.2.2.2.1),.p (pI yy.1.2.2.2.2.2.2.2.1),.p (pI yy.1.2.2.2.2.2.2.2.2.1),.p (pI yy.1.2.2.2.2.2.2.2.2.2.1),.p (pI yy.1.2.2.2.2.2.2.2.2.2.2.1)],.box [.p (pI yy.2.1.1)],.box [.p (pI yy.2.2.1.1)]]⟩ : St):=hs.trans (by kernel_rfl)
  rw [← hs,q,← f50_p11e0 yy.1.1 yy.1.2.1 yy.1.2.2.1 yy.1.2.2.2.1 yy.1.2.2.2.2.1 yy.1.2.2.2.2.2.1 yy.1.2.2.2.2.2.2.1 yy.1.2.2.2.2.2.2.2.1 yy.1.2.2.2.2.2.2.2.2.1 yy.1.2.2.2.2.2.2.2.2.2.1 yy.1.2.2.2.2.2.2.2.2.2.2.1 yy.2.1.1 yy.2.2.1.1 K]
  exact h
def f50_G0 : List TV→List Entry→(TV→List Entry→Prop)→Prop:=fun tm hp K=>getS [.v (.pagg [.int .i64,.int .i64,.int .i64,.int .i64,.int .i64,.int .i64,.int .i64,.int .i64,.int .i64,.int .i64,.int .i64])] [] tm hp fun (xx : ((Int×(Int×(Int×(Int×(Int×(Int×(Int×(Int×(Int×(Int×(Int×Unit)))))))))))×Unit)) (yy : Unit)=>f50 xx.1.1 xx.1.2.1 xx.1.2.2.1 xx.1.2.2.2.1 xx.1.2.2.2.2.1 xx.1.2.2.2.2.2.1 xx.1.2.2.2.2.2.2.1 xx.1.2.2.2.2.2.2.2.1 xx.1.2.2.2.2.2.2.2.2.1 xx.1.2.2.2.2.2.2.2.2.2.1 xx.1.2.2.2.2.2.2.2.2.2.2.1 (fun n0_1 n0_2=>K (.w (.one (.clo 79 [] [.ptr 0 0 0,.ptr 1 0 0]))) [.box [.p (pI n0_1)],.box [.p (pI n0_2)]]) (fun n1_3 n1_4 n1_5 n1_6 n1_7 n1_8 n1_9 n1_10 n1_11 n1_12 n1_13=>K (.w (.one (.clo 80 [] [.ptr 0 0 0]))) [.box [.p (pI n1_3),.p (pI n1_4),.p (pI n1_5),.p (pI n1_6),.p (pI n1_7),.p (pI n1_8),.p (pI n1_9),.p (pI n1_10),.p (pI n1_11),.p (pI n1_12),.p (pI n1_13)]])
theorem f50_eq (n_28 n_29 : Int) (n_30 n_31 : Int) (n_32 n_33 : Int) (n_34 n_35 : Int) (n_36 n_37 n_38 : Int) (K : TV→List Entry→Prop) : (f50_d n_28 n_29 n_30 n_31 n_32 n_33 n_34 n_35 n_36 n_37 n_38 (fun n0_1 n0_2=>K (.w (.one (.clo 79 [] [.ptr 0 0 0,.ptr 1 0 0]))) [.box [.p (pI n0_1)],.box [.p (pI n0_2)]]) (fun n1_3 n1_4 n1_5 n1_6 n1_7 n1_8 n1_9 n1_10 n1_11 n1_12 n1_13=>K (.w (.one (.clo 80 [] [.ptr 0 0 0]))) [.box [.p (pI n1_3),.p (pI n1_4),.p (pI n1_5),.p (pI n1_6),.p (pI n1_7),.p (pI n1_8),.p (pI n1_9),.p (pI n1_10),.p (pI n1_11),.p (pI n1_12),.p (pI n1_13)]])) = funcT f50_C Tryd.f50 [.w (.pagg [pI n_28,pI n_29,pI n_30,pI n_31,pI n_32,pI n_33,pI n_34,pI n_35,pI n_36,pI n_37,pI n_38])] [] K:=by kernel_rfl
set_option maxHeartbeats 4000000 in
theorem f50_ok0 : FnOk Tryd.prog glob 50 f50_G0:=by
  refine FnOk.of_text (C:=f50_C) tab_ok.ok (Known.add f33_G_ok (Known.add f31_G_ok (Known.none))) follows_ok (fn:=Tryd.f50) (by kernel_rfl) (by kernel_rfl) (by kernel_rfl) (fun c hc=>?_) fun tm hp K h=>?_
  · have e : c = bodyOf Tryd.f50:=Option.some.inj (hc.symm.trans (by kernel_rfl))
    subst e
    exact ⟨LoopsOk.of [] (by kernel_rfl) trivial,TailsOk.of (tab:=f50_tab) rfl [nthC (tails (bodyOf Tryd.f50)) 4] (by kernel_rfl) ⟨f50_p11_ok,trivial⟩⟩
  · unfold f50_G0 at h
    obtain ⟨xx,yy,rfl,rfl,h⟩:=getS_elim h
    have e:=(f50_eq xx.1.1 xx.1.2.1 xx.1.2.2.1 xx.1.2.2.2.1 xx.1.2.2.2.2.1 xx.1.2.2.2.2.2.1 xx.1.2.2.2.2.2.2.1 xx.1.2.2.2.2.2.2.2.1 xx.1.2.2.2.2.2.2.2.2.1 xx.1.2.2.2.2.2.2.2.2.2.1 xx.1.2.2.2.2.2.2.2.2.2.2.1 K).trans (show _ = funcT f50_C Tryd.f50 (mkR _ xx) (mkE _ yy) K by kernel_rfl)
    rw [← e]
    exact h.run
abbrev f50_G:=f50_G0
theorem f50_G_ok : FnOk Tryd.prog glob 50 f50_G:=f50_ok0
def f79_d (n1 n2 n3 : Int) (k0 : Bool→Int→Int→Prop) : Prop:=bB (decide (n1≥n2)) (k0 (decide (n1≤n3)) n2 n3) (k0 false n2 n3)
structure f79 (n1 n2 n3 : Int) (k0 : Bool→Int→Int→Prop) : Prop where
  run : f79_d n1 n2 n3 k0
def f79_tab : List (Nat×Told):=[]
def f79_call : FuncId→List TV→List Entry→(TV→List Entry→Prop)→Prop:=noCalls
def f79_C : Ctx:=mkC [] [] [] [] [] false 2 true (lookL f79_tab) f79_call
def f79_G0 : List TV→List Entry→(TV→List Entry→Prop)→Prop:=fun tm hp K=>getS [.v (.one (.int .i64)),.v (.one (.ptr 0 0 0)),.v (.one (.ptr 1 0 0))] [.box [.int .i64],.box [.int .i64]] tm hp fun (xx : (Int×(Unit×(Unit×Unit)))) (yy : ((Int×Unit)×((Int×Unit)×Unit)))=>f79 xx.1 yy.1.1 yy.2.1.1 (fun b0_0 n0_1 n0_2=>K (B b0_0) [.box [.p (pI n0_1)],.box [.p (pI n0_2)]])
theorem f79_eq (n_3 n_4 n_5 : Int) (K : TV→List Entry→Prop) : (f79_d n_3 n_4 n_5 (fun b0_0 n0_1 n0_2=>K (B b0_0) [.box [.p (pI n0_1)],.box [.p (pI n0_2)]])) = funcT f79_C Tryd.f79 [I n_3,.w (.one (.ptr 0 0 0)),.w (.one (.ptr 1 0 0))] [.box [.p (pI n_4)],.box [.p (pI n_5)]] K:=by kernel_rfl
set_option maxHeartbeats 4000000 in
theorem f79_ok0 : FnOk Tryd.prog glob 79 f79_G0:=by
  refine FnOk.of_text (C:=f79_C) tab_ok.ok (Known.none) follows_ok (fn:=Tryd.f79) (by kernel_rfl) (by kernel_rfl) (by kernel_rfl) (fun c hc=>?_) fun tm hp K h=>?_
  · have e : c = bodyOf Tryd.f79:=Option.some.inj (hc.symm.trans (by kernel_rfl))
    subst e
    exact ⟨LoopsOk.of [] (by kernel_rfl) trivial,TailsOk.of (tab:=f79_tab) rfl [] (by kernel_rfl) trivial⟩
  · unfold f79_G0 at h
    obtain ⟨xx,yy,rfl,rfl,h⟩:=getS_elim h
    have e:=(f79_eq xx.1 yy.1.1 yy.2.1.1 K).trans (show _ = funcT f79_C Tryd.f79 (mkR _ xx) (mkE _ yy) K by kernel_rfl)
    rw [← e]
    exact h.run
abbrev f79_G:=f79_G0
theorem f79_G_ok : FnOk Tryd.prog glob 79 f79_G:=f79_ok0
def f91_d (n1 : Int) (k0 : Int→Prop) : Prop:=bB (decide (n1 < 0)) (k0 1) (bB (decide (n1 > 73048)) (k0 1) (k0 0))
structure f91 (n1 : Int) (k0 : Int→Prop) : Prop where
  run : f91_d n1 k0
def f91_tab : List (Nat×Told):=[]
def f91_call : FuncId→List TV→List Entry→(TV→List Entry→Prop)→Prop:=noCalls
def f91_C : Ctx:=mkC [] [] [] [] [] false 0 true (lookL f91_tab) f91_call
def f91_G0 : List TV→List Entry→(TV→List Entry→Prop)→Prop:=fun tm hp K=>getS [.v (.one (.int .i64))] [] tm hp fun (xx : (Int×Unit)) (yy : Unit)=>f91 xx.1 (fun n0_0=>K (I n0_0) [])
theorem f91_eq (n_1 : Int) (K : TV→List Entry→Prop) : (f91_d n_1 (fun n0_0=>K (I n0_0) [])) = funcT f91_C Tryd.f91 [I n_1] [] K:=by kernel_rfl
set_option maxHeartbeats 4000000 in
theorem f91_ok0 : FnOk Tryd.prog glob 91 f91_G0:=by
  refine FnOk.of_text (C:=f91_C) tab_ok.ok (Known.none) follows_ok (fn:=Tryd.f91) (by kernel_rfl) (by kernel_rfl) (by kernel_rfl) (fun c hc=>?_) fun tm hp K h=>?_
  · have e : c = bodyOf Tryd.f91:=Option.some.inj (hc.symm.trans (by kernel_rfl))
    subst e
    exact ⟨LoopsOk.of [] (by kernel_rfl) trivial,TailsOk.of (tab:=f91_tab) rfl [] (by kernel_rfl) trivial⟩
  · unfold f91_G0 at h
    obtain ⟨xx,yy,rfl,rfl,h⟩:=getS_elim h
    have e:=(f91_eq xx.1 K).trans (show _ = funcT f91_C Tryd.f91 (mkR _ xx) (mkE _ yy) K by kernel_rfl)
    rw [← e]
    exact h.run
abbrev f91_G:=f91_G0
theorem f91_G_ok : FnOk Tryd.prog glob 91 f91_G:=f91_ok0
def f92_p4b0 (n2 n3 : Int) (n4 n5 : Int) (n6 n7 n8 : Int) (N0 : Int→Prop) (k0 : Int→Prop) : Prop:=f47 (w64 (n6 + 1)) (fun n9=>bB (decide (n9≤n2)) (N0 (w64 (n6 + 1))) (k0 n6))
def f92_p4 (n2 n3 : Int) (n4 n5 : Int) (n7 n8 : Int) (k0 : Int→Prop) : Int→Prop:=LoopP fun x N=>f92_p4b0 n2 n3 n4 n5 x n7 n8 (fun n6=>N n6) k0
def f92_p10b0 (n12 n13 : Int) (n14 n15 : Int) (n16 n17 n18 : Int) (N0 : Int→Int→Prop) (k0 : Int→Int→Prop) : Prop:=f46 n16 n17 (fun n19=>bB (decide (n12≥n19)) (f46 n16 n17 (fun n20=>N0 (w64 (n12 - n20)) (w64 (n17 + 1)))) (k0 n12 n17))
def f92_p10 (n13 n14 : Int) (n15 n16 n18 : Int) (k0 : Int→Int→Prop) : Int×Int→Prop:=LoopP fun x N=>f92_p10b0 x.1 n13 n14 n15 n16 x.2 n18 (fun n12 n17=>N (n12,n17)) k0
def f92_d (n1 : Int) (k0 : Int→Int→Int→Prop) : Prop:=(366 : Int)≠0∧f92_p4 n1 0 0 0 1 0 (fun n10=>f47 n10 (fun n11=>f92_p10 0 0 0 n10 0 (fun n21 n22=>k0 n10 n22 (w64 (n21 + 1))) ((w64 (n1 - n11)),1))) (w64 (2000 + (w64 (Int.tdiv n1 366))))
structure f92 (n1 : Int) (k0 : Int→Int→Int→Prop) : Prop where
  run : f92_d n1 k0
def f92_p4L : Told:=fun s K=>match s with
  | ⟨tm,hp⟩=>getS [.v (.one (.int .i64)),.skip 1,.v (.one (.ptr 0 0 0)),.v (.one (.ptr 1 0 0)),.skip 42] [.box [.int .i64,.int .i64,.int .i64],.box [.int .i64,.int .i64,.int .i64]] tm hp fun (xx : (Int×(Unit×(Unit×(Unit×(Unit×Unit)))))) (yy : ((Int×(Int×(Int×Unit)))×((Int×(Int×(Int×Unit)))×Unit)))=>f92_p4 xx.1 yy.1.1 yy.1.2.1 yy.1.2.2.1 yy.2.1.2.1 yy.2.1.2.2.1 (fun n0_0=>K (.exit 0) ⟨mkS 46 [(0,I xx.1),(2,.w (.one (.ptr 0 0 0))),(3,.w (.one (.ptr 1 0 0)))],[.box [.p (pI yy.1.1),.p (pI yy.1.2.1),.p (pI yy.1.2.2.1)],.box [.p (pI n0_0),.p (pI yy.2.1.2.1),.p (pI yy.2.1.2.2.1)]]⟩) yy.2.1.1
def f92_p10L : Told:=fun s K=>match s with
  | ⟨tm,hp⟩=>getS [.skip 2,.v (.one (.ptr 0 0 0)),.v (.one (.ptr 1 0 0)),.v (.one (.int .i64)),.skip 41] [.box [.int .i64,.int .i64,.int .i64],.box [.int .i64,.int .i64,.int .i64]] tm hp fun (xx : (Unit×(Unit×(Unit×(Int×(Unit×Unit)))))) (yy : ((Int×(Int×(Int×Unit)))×((Int×(Int×(Int×Unit)))×Unit)))=>f92_p10 yy.1.1 yy.1.2.1 yy.1.2.2.1 yy.2.1.1 yy.2.1.2.2.1 (fun n0_1 n0_2=>K (.exit 2) ⟨mkS 46 [(2,.w (.one (.ptr 0 0 0))),(3,.w (.one (.ptr 1 0 0))),(4,I n0_1)],[.box [.p (pI yy.1.1),.p (pI yy.1.2.1),.p (pI yy.1.2.2.1)],.box [.p (pI yy.2.1.1),.p (pI n0_2),.p (pI yy.2.1.2.2.1)]]⟩) (xx.2.2.2.1,yy.2.1.2.1)
def f92_tab : List (Nat×Told):=[(4,f92_p4L),(10,f92_p10L)]
def f92_call : FuncId→List TV→List Entry→(TV→List Entry→Prop)→Prop:=addCall 47 f47_G (addCall 46 f46_G (noCalls))
def f92_C : Ctx:=mkC [(4,[(0,[0,2,3]),(2,[2]),(3,[0,2,3])]),(10,[(0,[2,3,4]),(2,[2]),(5,[2,3,4])])] [] [] [] [] false 0 true (lookL f92_tab) f92_call
def f92_p4_mk (n2 n3 : Int) (n4 n5 : Int) (n7 n8 x : Int) : St:=⟨mkS 46 [(0,I n2),(2,.w (.one (.ptr 0 0 0))),(3,.w (.one (.ptr 1 0 0)))],[.box [.p (pI n3),.p (pI n4),.p (pI n5)],.box [.p (pI x),.p (pI n7),.p (pI n8)]]⟩
theorem f92_p4e0 (n_13 n_14 : Int) (n_15 n_16 : Int) (n_17 n_18 n_19 : Int) (N : St→Prop) (K : TExit→St→Prop) : (f92_p4b0 n_13 n_14 n_15 n_16 n_17 n_18 n_19 (fun z4=>N (f92_p4_mk n_13 n_14 n_15 n_16 n_18 n_19 z4)) (fun n0_20=>K (.exit 0) ⟨mkS 46 [(0,I n_13),(2,.w (.one (.ptr 0 0 0))),(3,.w (.one (.ptr 1 0 0)))],[.box [.p (pI n_14),.p (pI n_15),.p (pI n_16)],.box [.p (pI n0_20),.p (pI n_18),.p (pI n_19)]]⟩)) = execT f92_C (bd Tryd.f92 0) (f92_p4_mk n_13 n_14 n_15 n_16 n_18 n_19 n_17) (loopK N (normK f92_C 4) fun e s=>K e (normOut f92_C 4 e s)):=by kernel_rfl
def f92_p10_mk (n13 n14 : Int) (n15 n16 n18 : Int) (x : Int×Int) : St:=⟨mkS 46 [(2,.w (.one (.ptr 0 0 0))),(3,.w (.one (.ptr 1 0 0))),(4,I x.1)],[.box [.p (pI n13),.p (pI n14),.p (pI n15)],.box [.p (pI n16),.p (pI x.2),.p (pI n18)]]⟩
theorem f92_p10e0 (n_28 n_29 : Int) (n_30 n_31 : Int) (n_32 n_33 n_34 : Int) (N : St→Prop) (K : TExit→St→Prop) : (f92_p10b0 n_28 n_29 n_30 n_31 n_32 n_33 n_34 (fun z0 z5=>N (f92_p10_mk n_29 n_30 n_31 n_32 n_34 (z0,z5))) (fun n0_35 n0_36=>K (.exit 2) ⟨mkS 46 [(2,.w (.one (.ptr 0 0 0))),(3,.w (.one (.ptr 1 0 0))),(4,I n0_35)],[.box [.p (pI n_29),.p (pI n_30),.p (pI n_31)],.box [.p (pI n_32),.p (pI n0_36),.p (pI n_34)]]⟩)) = execT f92_C (bd Tryd.f92 1) (f92_p10_mk n_29 n_30 n_31 n_32 n_34 (n_28,n_33)) (loopK N (normK f92_C 10) fun e s=>K e (normOut f92_C 10 e s)):=by kernel_rfl
set_option maxHeartbeats 4000000 in
theorem f92_p4_ok : LoopOk f92_C (bd Tryd.f92 0):=by
  refine LoopOk.of f92_p4L (by kernel_rfl) fun σ K h=>?_
  have hk : loopKey (bd Tryd.f92 0) = 4:=by kernel_rfl
  rw [hk] at h ⊢
  generalize hs : normK f92_C 4 σ = s at h
  obtain ⟨tm,hp⟩:=s
  unfold f92_p4L at h
  dsimp only at h
  obtain ⟨xx,yy,rfl,rfl,h⟩:=getS_elim h
  refine iter_of (f92_p4_mk xx.1 yy.1.1 yy.1.2.1 yy.1.2.2.1 yy.2.1.2.1 yy.2.1.2.2.1) (fun x N h=>?_) rounds _ σ (hs.trans (by kernel_rfl)) (LoopP.run h)
  rw [← f92_p4e0 xx.1 yy.1.1 yy.1.2.1 yy.1.2.2.1 x yy.2.1.2.1 yy.2.1.2.2.1 N K]
  exact h
set_option maxHeartbeats 4000000 in
theorem f92_p10_ok : LoopOk f92_C (bd Tryd.f92 1):=by
  refine LoopOk.of f92_p10L (by kernel_rfl) fun σ K h=>?_
  have hk : loopKey (bd Tryd.f92 1) = 10:=by kernel_rfl
  rw [hk] at h ⊢
  generalize hs : normK f92_C 10 σ = s at h
  obtain ⟨tm,hp⟩:=s
  unfold f92_p10L at h
  dsimp only at h
  obtain ⟨xx,yy,rfl,rfl,h⟩:=getS_elim h
  refine iter_of (f92_p10_mk yy.1.1 yy.1.2.1 yy.1.2.2.1 yy.2.1.1 yy.2.1.2.2.1) (fun x N h=>?_) rounds _ σ (hs.trans (by kernel_rfl)) (LoopP.run h)
  obtain ⟨y0,y1⟩:=x
  rw [← f92_p10e0 y0 yy.1.1 yy.1.2.1 yy.1.2.2.1 yy.2.1.1 y1 yy.2.1.2.2.1 N K]
  exact h
def f92_G0 : List TV→List Entry→(TV→List Entry→Prop)→Prop:=fun tm hp K=>getS [.v (.one (.int .i64))] [] tm hp fun (xx : (Int×Unit)) (yy : Unit)=>f92 xx.1 (fun n0_3 n0_4 n0_5=>K (.w (.pagg [pI n0_3,pI n0_4,pI n0_5])) [])
theorem f92_eq (n_37 : Int) (K : TV→List Entry→Prop) : (f92_d n_37 (fun n0_3 n0_4 n0_5=>K (.w (.pagg [pI n0_3,pI n0_4,pI n0_5])) [])) = funcT f92_C Tryd.f92 [I n_37] [] K:=by kernel_rfl
set_option maxHeartbeats 4000000 in
theorem f92_ok0 : FnOk Tryd.prog glob 92 f92_G0:=by
  refine FnOk.of_text (C:=f92_C) tab_ok.ok (Known.add f47_G_ok (Known.add f46_G_ok (Known.none))) follows_ok (fn:=Tryd.f92) (by kernel_rfl) (by kernel_rfl) (by kernel_rfl) (fun c hc=>?_) fun tm hp K h=>?_
  · have e : c = bodyOf Tryd.f92:=Option.some.inj (hc.symm.trans (by kernel_rfl))
    subst e
    exact ⟨LoopsOk.of [bd Tryd.f92 0,bd Tryd.f92 1] (by kernel_rfl) ⟨f92_p4_ok,f92_p10_ok,trivial⟩,TailsOk.of (tab:=f92_tab) rfl [] (by kernel_rfl) trivial⟩
  · unfold f92_G0 at h
    obtain ⟨xx,yy,rfl,rfl,h⟩:=getS_elim h
    have e:=(f92_eq xx.1 K).trans (show _ = funcT f92_C Tryd.f92 (mkR _ xx) (mkE _ yy) K by kernel_rfl)
    rw [← e]
    exact h.run
abbrev f92_G:=f92_G0
theorem f92_G_ok : FnOk Tryd.prog glob 92 f92_G:=f92_ok0
def f81_d (n1 : Int) (k0 : Int→Int→Int→Int→Prop) : Prop:=f91 n1 (fun n2=>bB (n2 != 0) (k0 0 0 0 n2) (f92 n1 (fun n3 n4 n5=>k0 n3 n4 n5 0)))
structure f81 (n1 : Int) (k0 : Int→Int→Int→Int→Prop) : Prop where
  run : f81_d n1 k0
def f81_tab : List (Nat×Told):=[]
def f81_call : FuncId→List TV→List Entry→(TV→List Entry→Prop)→Prop:=addCall 92 f92_G (addCall 91 f91_G (noCalls))
def f81_C : Ctx:=mkC [] [] [] [] [] false 0 true (lookL f81_tab) f81_call
def f81_G0 : List TV→List Entry→(TV→List Entry→Prop)→Prop:=fun tm hp K=>getS [.v (.one (.int .i64))] [] tm hp fun (xx : (Int×Unit)) (yy : Unit)=>f81 xx.1 (fun n0_0 n0_1 n0_2 n0_3=>K (.tup [.pagg [pI n0_0,pI n0_1,pI n0_2],.one (.p (pI n0_3))]) [])
theorem f81_eq (n_4 : Int) (K : TV→List Entry→Prop) : (f81_d n_4 (fun n0_0 n0_1 n0_2 n0_3=>K (.tup [.pagg [pI n0_0,pI n0_1,pI n0_2],.one (.p (pI n0_3))]) [])) = funcT f81_C Tryd.f81 [I n_4] [] K:=by kernel_rfl
set_option maxHeartbeats 4000000 in
theorem f81_ok0 : FnOk Tryd.prog glob 81 f81_G0:=by
  refine FnOk.of_text (C:=f81_C) tab_ok.ok (Known.add f92_G_ok (Known.add f91_G_ok (Known.none))) follows_ok (fn:=Tryd.f81) (by kernel_rfl) (by kernel_rfl) (by kernel_rfl) (fun c hc=>?_) fun tm hp K h=>?_
  · have e : c = bodyOf Tryd.f81:=Option.some.inj (hc.symm.trans (by kernel_rfl))
    subst e
    exact ⟨LoopsOk.of [] (by kernel_rfl) trivial,TailsOk.of (tab:=f81_tab) rfl [] (by kernel_rfl) trivial⟩
  · unfold f81_G0 at h
    obtain ⟨xx,yy,rfl,rfl,h⟩:=getS_elim h
    have e:=(f81_eq xx.1 K).trans (show _ = funcT f81_C Tryd.f81 (mkR _ xx) (mkE _ yy) K by kernel_rfl)
    rw [← e]
    exact h.run
abbrev f81_G:=f81_G0
theorem f81_G_ok : FnOk Tryd.prog glob 81 f81_G:=f81_ok0
def f93_d (n1 : Int) (k0 : Int→Prop) : Prop:=(7 : Int)≠0∧k0 (w64 ((Int.tmod (w64 (n1 + 5)) 7) + 1))
structure f93 (n1 : Int) (k0 : Int→Prop) : Prop where
  run : f93_d n1 k0
def f93_tab : List (Nat×Told):=[]
def f93_call : FuncId→List TV→List Entry→(TV→List Entry→Prop)→Prop:=noCalls
def f93_C : Ctx:=mkC [] [] [] [] [] false 0 true (lookL f93_tab) f93_call
def f93_G0 : List TV→List Entry→(TV→List Entry→Prop)→Prop:=fun tm hp K=>getS [.v (.one (.int .i64))] [] tm hp fun (xx : (Int×Unit)) (yy : Unit)=>f93 xx.1 (fun n0_0=>K (I n0_0) [])
theorem f93_eq (n_1 : Int) (K : TV→List Entry→Prop) : (f93_d n_1 (fun n0_0=>K (I n0_0) [])) = funcT f93_C Tryd.f93 [I n_1] [] K:=by kernel_rfl
set_option maxHeartbeats 4000000 in
theorem f93_ok0 : FnOk Tryd.prog glob 93 f93_G0:=by
  refine FnOk.of_text (C:=f93_C) tab_ok.ok (Known.none) follows_ok (fn:=Tryd.f93) (by kernel_rfl) (by kernel_rfl) (by kernel_rfl) (fun c hc=>?_) fun tm hp K h=>?_
  · have e : c = bodyOf Tryd.f93:=Option.some.inj (hc.symm.trans (by kernel_rfl))
    subst e
    exact ⟨LoopsOk.of [] (by kernel_rfl) trivial,TailsOk.of (tab:=f93_tab) rfl [] (by kernel_rfl) trivial⟩
  · unfold f93_G0 at h
    obtain ⟨xx,yy,rfl,rfl,h⟩:=getS_elim h
    have e:=(f93_eq xx.1 K).trans (show _ = funcT f93_C Tryd.f93 (mkR _ xx) (mkE _ yy) K by kernel_rfl)
    rw [← e]
    exact h.run
abbrev f93_G:=f93_G0
theorem f93_G_ok : FnOk Tryd.prog glob 93 f93_G:=f93_ok0
def f82_d (n1 : Int) (k0 : Int→Int→Prop) : Prop:=f91 n1 (fun n2=>bB (n2 != 0) (k0 0 n2) (f93 n1 (fun n3=>k0 n3 0)))
structure f82 (n1 : Int) (k0 : Int→Int→Prop) : Prop where
  run : f82_d n1 k0
def f82_tab : List (Nat×Told):=[]
def f82_call : FuncId→List TV→List Entry→(TV→List Entry→Prop)→Prop:=addCall 93 f93_G (addCall 91 f91_G (noCalls))
def f82_C : Ctx:=mkC [] [] [] [] [] false 0 true (lookL f82_tab) f82_call
def f82_G0 : List TV→List Entry→(TV→List Entry→Prop)→Prop:=fun tm hp K=>getS [.v (.one (.int .i64))] [] tm hp fun (xx : (Int×Unit)) (yy : Unit)=>f82 xx.1 (fun n0_0 n0_1=>K (.tup [.one (.p (pI n0_0)),.one (.p (pI n0_1))]) [])
theorem f82_eq (n_2 : Int) (K : TV→List Entry→Prop) : (f82_d n_2 (fun n0_0 n0_1=>K (.tup [.one (.p (pI n0_0)),.one (.p (pI n0_1))]) [])) = funcT f82_C Tryd.f82 [I n_2] [] K:=by kernel_rfl
set_option maxHeartbeats 4000000 in
theorem f82_ok0 : FnOk Tryd.prog glob 82 f82_G0:=by
  refine FnOk.of_text (C:=f82_C) tab_ok.ok (Known.add f93_G_ok (Known.add f91_G_ok (Known.none))) follows_ok (fn:=Tryd.f82) (by kernel_rfl) (by kernel_rfl) (by kernel_rfl) (fun c hc=>?_) fun tm hp K h=>?_
  · have e : c = bodyOf Tryd.f82:=Option.some.inj (hc.symm.trans (by kernel_rfl))
    subst e
    exact ⟨LoopsOk.of [] (by kernel_rfl) trivial,TailsOk.of (tab:=f82_tab) rfl [] (by kernel_rfl) trivial⟩
  · unfold f82_G0 at h
    obtain ⟨xx,yy,rfl,rfl,h⟩:=getS_elim h
    have e:=(f82_eq xx.1 K).trans (show _ = funcT f82_C Tryd.f82 (mkR _ xx) (mkE _ yy) K by kernel_rfl)
    rw [← e]
    exact h.run
abbrev f82_G:=f82_G0
theorem f82_G_ok : FnOk Tryd.prog glob 82 f82_G:=f82_ok0
def f80_p31 (n52 : Int) (b53 : Bool) (n54 n55 : Int) (n56 n57 : Int) (n58 n59 : Int) (n60 n61 : Int) (n62 n63 : Int) (n64 n65 : Int) (n66 n67 : Int) (k0 : Bool→Prop) (k1 : Unit→Prop) : Prop:=bB b53 (k0 false) (bB (n58 == 6) (k0 (decide (n67 > (w64 (n52 - 7))))) (bB (n58 != 0) (bB (decide (n67≥(w64 ((w64 (7 * n58)) - 6)))) (k0 (decide (n67≤(w64 (7 * n58))))) (k0 false)) (k1 ())))
def f80_p21 (n36 : Int) (b37 : Bool) (n38 n39 : Int) (n40 n41 : Int) (n42 n43 : Int) (n44 n45 : Int) (n46 n47 : Int) (n48 n49 : Int) (n50 n51 : Int) (k0 : Bool→Prop) (k1 : Unit→Prop) : Prop:=bB b37 (k0 false) (bB (n40 == 32) (bB (n51 != n36) (f80_p31 n36 true n38 n39 n40 n41 n42 n43 n44 n45 n46 n47 n48 n49 n50 n51 k0 (fun (_ : Unit)=>k1 ())) (bB (n40 == 33) ((2 : Int)≠0∧bB ((Int.tmod n51 2) == 0) (f80_p31 n36 true n38 n39 n40 n41 n42 n43 n44 n45 n46 n47 n48 n49 n50 n51 k0 (fun (_ : Unit)=>k1 ())) (bB (n40 == 34) ((2 : Int)≠0∧bB ((Int.tmod n51 2) == 1) (f80_p31 n36 true n38 n39 n40 n41 n42 n43 n44 n45 n46 n47 n48 n49 n50 n51 k0 (fun (_ : Unit)=>k1 ())) (bB (n40 != 0) (bB (decide (n40≤31)) (f80_p31 n36 (n40 != n51) n38 n39 n40 n41 n42 n43 n44 n45 n46 n47 n48 n49 n50 n51 k0 (fun (_ : Unit)=>k1 ())) (f80_p31 n36 false n38 n39 n40 n41 n42 n43 n44 n45 n46 n47 n48 n49 n50 n51 k0 (fun (_ : Unit)=>k1 ()))) (f80_p31 n36 false n38 n39 n40 n41 n42 n43 n44 n45 n46 n47 n48 n49 n50 n51 k0 (fun (_ : Unit)=>k1 ())))) (bB (n40 != 0) (bB (decide (n40≤31)) (f80_p31 n36 (n40 != n51) n38 n39 n40 n41 n42 n43 n44 n45 n46 n47 n48 n49 n50 n51 k0 (fun (_ : Unit)=>k1 ())) (f80_p31 n36 false n38 n39 n40 n41 n42 n43 n44 n45 n46 n47 n48 n49 n50 n51 k0 (fun (_ : Unit)=>k1 ()))) (f80_p31 n36 false n38 n39 n40 n41 n42 n43 n44 n45 n46 n47 n48 n49 n50 n51 k0 (fun (_ : Unit)=>k1 ()))))) (bB (n40 == 34) ((2 : Int)≠0∧bB ((Int.tmod n51 2) == 1) (f80_p31 n36 true n38 n39 n40 n41 n42 n43 n44 n45 n46 n47 n48 n49 n50 n51 k0 (fun (_ : Unit)=>k1 ())) (bB (n40 != 0) (bB (decide (n40≤31)) (f80_p31 n36 (n40 != n51) n38 n39 n40 n41 n42 n43 n44 n45 n46 n47 n48 n49 n50 n51 k0 (fun (_ : Unit)=>k1 ())) (f80_p31 n36 false n38 n39 n40 n41 n42 n43 n44 n45 n46 n47 n48 n49 n50 n51 k0 (fun (_ : Unit)=>k1 ()))) (f80_p31 n36 false n38 n39 n40 n41 n42 n43 n44 n45 n46 n47 n48 n49 n50 n51 k0 (fun (_ : Unit)=>k1 ())))) (bB (n40 != 0) (bB (decide (n40≤31)) (f80_p31 n36 (n40 != n51) n38 n39 n40 n41 n42 n43 n44 n45 n46 n47 n48 n49 n50 n51 k0 (fun (_ : Unit)=>k1 ())) (f80_p31 n36 false n38 n39 n40 n41 n42 n43 n44 n45 n46 n47 n48 n49 n50 n51 k0 (fun (_ : Unit)=>k1 ()))) (f80_p31 n36 false n38 n39 n40 n41 n42 n43 n44 n45 n46 n47 n48 n49 n50 n51 k0 (fun (_ : Unit)=>k1 ())))))) (bB (n40 == 33) ((2 : Int)≠0∧bB ((Int.tmod n51 2) == 0) (f80_p31 n36 true n38 n39 n40 n41 n42 n43 n44 n45 n46 n47 n48 n49 n50 n51 k0 (fun (_ : Unit)=>k1 ())) (bB (n40 == 34) ((2 : Int)≠0∧bB ((Int.tmod n51 2) == 1) (f80_p31 n36 true n38 n39 n40 n41 n42 n43 n44 n45 n46 n47 n48 n49 n50 n51 k0 (fun (_ : Unit)=>k1 ())) (bB (n40 != 0) (bB (decide (n40≤31)) (f80_p31 n36 (n40 != n51) n38 n39 n40 n41 n42 n43 n44 n45 n46 n47 n48 n49 n50 n51 k0 (fun (_ : Unit)=>k1 ())) (f80_p31 n36 false n38 n39 n40 n41 n42 n43 n44 n45 n46 n47 n48 n49 n50 n51 k0 (fun (_ : Unit)=>k1 ()))) (f80_p31 n36 false n38 n39 n40 n41 n42 n43 n44 n45 n46 n47 n48 n49 n50 n51 k0 (fun (_ : Unit)=>k1 ())))) (bB (n40 != 0) (bB (decide (n40≤31)) (f80_p31 n36 (n40 != n51) n38 n39 n40 n41 n42 n43 n44 n45 n46 n47 n48 n49 n50 n51 k0 (fun (_ : Unit)=>k1 ())) (f80_p31 n36 false n38 n39 n40 n41 n42 n43 n44 n45 n46 n47 n48 n49 n50 n51 k0 (fun (_ : Unit)=>k1 ()))) (f80_p31 n36 false n38 n39 n40 n41 n42 n43 n44 n45 n46 n47 n48 n49 n50 n51 k0 (fun (_ : Unit)=>k1 ()))))) (bB (n40 == 34) ((2 : Int)≠0∧bB ((Int.tmod n51 2) == 1) (f80_p31 n36 true n38 n39 n40 n41 n42 n43 n44 n45 n46 n47 n48 n49 n50 n51 k0 (fun (_ : Unit)=>k1 ())) (bB (n40 != 0) (bB (decide (n40≤31)) (f80_p31 n36 (n40 != n51) n38 n39 n40 n41 n42 n43 n44 n45 n46 n47 n48 n49 n50 n51 k0 (fun (_ : Unit)=>k1 ())) (f80_p31 n36 false n38 n39 n40 n41 n42 n43 n44 n45 n46 n47 n48 n49 n50 n51 k0 (fun (_ : Unit)=>k1 ()))) (f80_p31 n36 false n38 n39 n40 n41 n42 n43 n44 n45 n46 n47 n48 n49 n50 n51 k0 (fun (_ : Unit)=>k1 ())))) (bB (n40 != 0) (bB (decide (n40≤31)) (f80_p31 n36 (n40 != n51) n38 n39 n40 n41 n42 n43 n44 n45 n46 n47 n48 n49 n50 n51 k0 (fun (_ : Unit)=>k1 ())) (f80_p31 n36 false n38 n39 n40 n41 n42 n43 n44 n45 n46 n47 n48 n49 n50 n51 k0 (fun (_ : Unit)=>k1 ()))) (f80_p31 n36 false n38 n39 n40 n41 n42 n43 n44 n45 n46 n47 n48 n49 n50 n51 k0 (fun (_ : Unit)=>k1 ()))))))
def f80_p13 (n20 : Int) (b21 : Bool) (n22 n23 : Int) (n24 n25 : Int) (n26 n27 : Int) (n28 n29 : Int) (n30 n31 : Int) (n32 n33 : Int) (n34 n35 : Int) (k0 : Bool→Prop) (k1 : Unit→Prop) : Prop:=bB b21 (k0 false) (bB (n23 == 13) ((2 : Int)≠0∧bB ((Int.tmod n34 2) == 0) (f80_p21 n20 true n22 n23 n24 n25 n26 n27 n28 n29 n30 n31 n32 n33 n34 n35 k0 (fun (_ : Unit)=>k1 ())) (bB (n23 == 14) ((2 : Int)≠0∧bB ((Int.tmod n34 2) == 1) (f80_p21 n20 true n22 n23 n24 n25 n26 n27 n28 n29 n30 n31 n32 n33 n34 n35 k0 (fun (_ : Unit)=>k1 ())) (bB (n23 != 0) (bB (decide (n23≤12)) (f80_p21 n20 (n23 != n34) n22 n23 n24 n25 n26 n27 n28 n29 n30 n31 n32 n33 n34 n35 k0 (fun (_ : Unit)=>k1 ())) (f80_p21 n20 false n22 n23 n24 n25 n26 n27 n28 n29 n30 n31 n32 n33 n34 n35 k0 (fun (_ : Unit)=>k1 ()))) (f80_p21 n20 false n22 n23 n24 n25 n26 n27 n28 n29 n30 n31 n32 n33 n34 n35 k0 (fun (_ : Unit)=>k1 ())))) (bB (n23 != 0) (bB (decide (n23≤12)) (f80_p21 n20 (n23 != n34) n22 n23 n24 n25 n26 n27 n28 n29 n30 n31 n32 n33 n34 n35 k0 (fun (_ : Unit)=>k1 ())) (f80_p21 n20 false n22 n23 n24 n25 n26 n27 n28 n29 n30 n31 n32 n33 n34 n35 k0 (fun (_ : Unit)=>k1 ()))) (f80_p21 n20 false n22 n23 n24 n25 n26 n27 n28 n29 n30 n31 n32 n33 n34 n35 k0 (fun (_ : Unit)=>k1 ()))))) (bB (n23 == 14) ((2 : Int)≠0∧bB ((Int.tmod n34 2) == 1) (f80_p21 n20 true n22 n23 n24 n25 n26 n27 n28 n29 n30 n31 n32 n33 n34 n35 k0 (fun (_ : Unit)=>k1 ())) (bB (n23 != 0) (bB (decide (n23≤12)) (f80_p21 n20 (n23 != n34) n22 n23 n24 n25 n26 n27 n28 n29 n30 n31 n32 n33 n34 n35 k0 (fun (_ : Unit)=>k1 ())) (f80_p21 n20 false n22 n23 n24 n25 n26 n27 n28 n29 n30 n31 n32 n33 n34 n35 k0 (fun (_ : Unit)=>k1 ()))) (f80_p21 n20 false n22 n23 n24 n25 n26 n27 n28 n29 n30 n31 n32 n33 n34 n35 k0 (fun (_ : Unit)=>k1 ())))) (bB (n23 != 0) (bB (decide (n23≤12)) (f80_p21 n20 (n23 != n34) n22 n23 n24 n25 n26 n27 n28 n29 n30 n31 n32 n33 n34 n35 k0 (fun (_ : Unit)=>k1 ())) (f80_p21 n20 false n22 n23 n24 n25 n26 n27 n28 n29 n30 n31 n32 n33 n34 n35 k0 (fun (_ : Unit)=>k1 ()))) (f80_p21 n20 false n22 n23 n24 n25 n26 n27 n28 n29 n30 n31 n32 n33 n34 n35 k0 (fun (_ : Unit)=>k1 ())))))
def f80_d (n1 n2 : Int) (n3 n4 : Int) (n5 n6 : Int) (n7 n8 : Int) (n9 n10 : Int) (n11 n12 : Int) (k0 : Bool→Int→Int→Int→Int→Int→Int→Int→Int→Int→Int→Int→Prop) : Prop:=f81 n1 (fun n13 n14 n15 n16=>f46 n13 n14 (fun n17=>f82 n1 (fun n18 n19=>bB (n2 != 0) (bB (n2 != n13) (f80_p13 n17 true n2 n3 n4 n5 n6 n7 n8 n9 n10 n11 n12 n13 n14 n15 (fun b114=>k0 b114 n2 n3 n4 n5 n6 n7 n8 n9 n10 n11 n12) (fun (_ : Unit)=>k0 true n2 n3 n4 n5 n6 n7 n8 n9 n10 n11 n12)) (bB (n5 != 0) (f80_p13 n17 (n5 != n18) n2 n3 n4 n5 n6 n7 n8 n9 n10 n11 n12 n13 n14 n15 (fun b115=>k0 b115 n2 n3 n4 n5 n6 n7 n8 n9 n10 n11 n12) (fun (_ : Unit)=>k0 true n2 n3 n4 n5 n6 n7 n8 n9 n10 n11 n12)) (f80_p13 n17 false n2 n3 n4 n5 n6 n7 n8 n9 n10 n11 n12 n13 n14 n15 (fun b116=>k0 b116 n2 n3 n4 n5 n6 n7 n8 n9 n10 n11 n12) (fun (_ : Unit)=>k0 true n2 n3 n4 n5 n6 n7 n8 n9 n10 n11 n12)))) (bB (n5 != 0) (f80_p13 n17 (n5 != n18) n2 n3 n4 n5 n6 n7 n8 n9 n10 n11 n12 n13 n14 n15 (fun b117=>k0 b117 n2 n3 n4 n5 n6 n7 n8 n9 n10 n11 n12) (fun (_ : Unit)=>k0 true n2 n3 n4 n5 n6 n7 n8 n9 n10 n11 n12)) (f80_p13 n17 false n2 n3 n4 n5 n6 n7 n8 n9 n10 n11 n12 n13 n14 n15 (fun b118=>k0 b118 n2 n3 n4 n5 n6 n7 n8 n9 n10 n11 n12) (fun (_ : Unit)=>k0 true n2 n3 n4 n5 n6 n7 n8 n9 n10 n11 n12))))))
structure f80 (n1 n2 : Int) (n3 n4 : Int) (n5 n6 : Int) (n7 n8 : Int) (n9 n10 : Int) (n11 n12 : Int) (k0 : Bool→Int→Int→Int→Int→Int→Int→Int→Int→Int→Int→Int→Prop) : Prop where
  run : f80_d n1 n2 n3 n4 n5 n6 n7 n8 n9 n10 n11 n12 k0
def f80_p31L : Told:=fun s K=>match s with
  | ⟨tm,hp⟩=>getS [.skip 1,.v (.one (.ptr 0 0 0)),.skip 2,.v (.one (.ptr 1 0 0)),.skip 1,.v (.one (.int .i64)),.skip 71,.v (.one (.bool)),.skip 70] [.box [.int .i64,.int .i64,.int .i64,.int .i64,.int .i64,.int .i64,.int .i64,.int .i64,.int .i64,.int .i64,.int .i64],.box [.int .i64,.int .i64,.int .i64]] tm hp fun (xx : (Unit×(Unit×(Unit×(Unit×(Unit×(Int×(Unit×(Bool×(Unit×Unit)))))))))) (yy : ((Int×(Int×(Int×(Int×(Int×(Int×(Int×(Int×(Int×(Int×(Int×Unit)))))))))))×((Int×(Int×(Int×Unit)))×Unit)))=>f80_p31 xx.2.2.2.2.2.1 xx.2.2.2.2.2.2.2.1 yy.1.1 yy.1.2.1 yy.1.2.2.1 yy.1.2.2.2.1 yy.1.2.2.2.2.1 yy.1.2.2.2.2.2.1 yy.1.2.2.2.2.2.2.1 yy.1.2.2.2.2.2.2.2.1 yy.1.2.2.2.2.2.2.2.2.1 yy.1.2.2.2.2.2.2.2.2.2.1 yy.1.2.2.2.2.2.2.2.2.2.2.1 yy.2.1.1 yy.2.1.2.1 yy.2.1.2.2.1 (fun b0_0=>K .ret ⟨mkS 149 [(3,B b0_0)],[.box [.p (pI yy.1.1),.p (pI yy.1.2.1),.p (pI yy.1.2.2.1),.p (pI yy.1.2.2.2.1),.p (pI yy.1.2.2.2.2.1),.p (pI yy.1.2.2.2.2.2.1),.p (pI yy.1.2.2.2.2.2.2.1),.p (pI yy.1.2.2.2.2.2.2.2.1),.p (pI yy.1.2.2.2.2.2.2.2.2.1),.p (pI yy.1.2.2.2.2.2.2.2.2.2.1),.p (pI yy.1.2.2.2.2.2.2.2.2.2.2.1)]]⟩) (fun (_ : Unit)=>K .normal ⟨mkS 149 [],[.box [.p (pI yy.1.1),.p (pI yy.1.2.1),.p (pI yy.1.2.2.1),.p (pI yy.1.2.2.2.1),.p (pI yy.1.2.2.2.2.1),.p (pI yy.1.2.2.2.2.2.1),.p (pI yy.1.2.2.2.2.2.2.1),.p (pI yy.1.2.2.2.2.2.2.2.1),.p (pI yy.1.2.2.2.2.2.2.2.2.1),.p (pI yy.1.2.2.2.2.2.2.2.2.2.1),.p (pI yy.1.2.2.2.2.2.2.2.2.2.2.1)]]⟩)
def f80_p21L : Told:=fun s K=>match s with
  | ⟨tm,hp⟩=>getS [.skip 1,.v (.one (.ptr 0 0 0)),.skip 2,.v (.one (.ptr 1 0 0)),.skip 1,.v (.one (.int .i64)),.skip 37,.v (.one (.bool)),.skip 104] [.box [.int .i64,.int .i64,.int .i64,.int .i64,.int .i64,.int .i64,.int .i64,.int .i64,.int .i64,.int .i64,.int .i64],.box [.int .i64,.int .i64,.int .i64]] tm hp fun (xx : (Unit×(Unit×(Unit×(Unit×(Unit×(Int×(Unit×(Bool×(Unit×Unit)))))))))) (yy : ((Int×(Int×(Int×(Int×(Int×(Int×(Int×(Int×(Int×(Int×(Int×Unit)))))))))))×((Int×(Int×(Int×Unit)))×Unit)))=>f80_p21 xx.2.2.2.2.2.1 xx.2.2.2.2.2.2.2.1 yy.1.1 yy.1.2.1 yy.1.2.2.1 yy.1.2.2.2.1 yy.1.2.2.2.2.1 yy.1.2.2.2.2.2.1 yy.1.2.2.2.2.2.2.1 yy.1.2.2.2.2.2.2.2.1 yy.1.2.2.2.2.2.2.2.2.1 yy.1.2.2.2.2.2.2.2.2.2.1 yy.1.2.2.2.2.2.2.2.2.2.2.1 yy.2.1.1 yy.2.1.2.1 yy.2.1.2.2.1 (fun b0_1=>K .ret ⟨mkS 149 [(3,B b0_1)],[.box [.p (pI yy.1.1),.p (pI yy.1.2.1),.p (pI yy.1.2.2.1),.p (pI yy.1.2.2.2.1),.p (pI yy.1.2.2.2.2.1),.p (pI yy.1.2.2.2.2.2.1),.p (pI yy.1.2.2.2.2.2.2.1),.p (pI yy.1.2.2.2.2.2.2.2.1),.p (pI yy.1.2.2.2.2.2.2.2.2.1),.p (pI yy.1.2.2.2.2.2.2.2.2.2.1),.p (pI yy.1.2.2.2.2.2.2.2.2.2.2.1)]]⟩) (fun (_ : Unit)=>K .normal ⟨mkS 149 [],[.box [.p (pI yy.1.1),.p (pI yy.1.2.1),.p (pI yy.1.2.2.1),.p (pI yy.1.2.2.2.1),.p (pI yy.1.2.2.2.2.1),.p (pI yy.1.2.2.2.2.2.1),.p (pI yy.1.2.2.2.2.2.2.1),.p (pI yy.1.2.2.2.2.2.2.2.1),.p (pI yy.1.2.2.2.2.2.2.2.2.1),.p (pI yy.1.2.2.2.2.2.2.2.2.2.1),.p (pI yy.1.2.2.2.2.2.2.2.2.2.2.1)]]⟩)
def f80_p13L : Told:=fun s K=>match s with
  | ⟨tm,hp⟩=>getS [.skip 1,.v (.one (.ptr 0 0 0)),.skip 2,.v (.one (.ptr 1 0 0)),.skip 1,.v (.one (.int .i64)),.skip 17,.v (.one (.bool)),.skip 124] [.box [.int .i64,.int .i64,.int .i64,.int .i64,.int .i64,.int .i64,.int .i64,.int .i64,.int .i64,.int .i64,.int .i64],.box [.int .i64,.int .i64,.int .i64]] tm hp fun (xx : (Unit×(Unit×(Unit×(Unit×(Unit×(Int×(Unit×(Bool×(Unit×Unit)))))))))) (yy : ((Int×(Int×(Int×(Int×(Int×(Int×(Int×(Int×(Int×(Int×(Int×Unit)))))))))))×((Int×(Int×(Int×Unit)))×Unit)))=>f80_p13 xx.2.2.2.2.2.1 xx.2.2.2.2.2.2.2.1 yy.1.1 yy.1.2.1 yy.1.2.2.1 yy.1.2.2.2.1 yy.1.2.2.2.2.1 yy.1.2.2.2.2.2.1 yy.1.2.2.2.2.2.2.1 yy.1.2.2.2.2.2.2.2.1 yy.1.2.2.2.2.2.2.2.2.1 yy.1.2.2.2.2.2.2.2.2.2.1 yy.1.2.2.2.2.2.2.2.2.2.2.1 yy.2.1.1 yy.2.1.2.1 yy.2.1.2.2.1 (fun b0_2=>K .ret ⟨mkS 149 [(3,B b0_2)],[.box [.p (pI yy.1.1),.p (pI yy.1.2.1),.p (pI yy.1.2.2.1),.p (pI yy.1.2.2.2.1),.p (pI yy.1.2.2.2.2.1),.p (pI yy.1.2.2.2.2.2.1),.p (pI yy.1.2.2.2.2.2.2.1),.p (pI yy.1.2.2.2.2.2.2.2.1),.p (pI yy.1.2.2.2.2.2.2.2.2.1),.p (pI yy.1.2.2.2.2.2.2.2.2.2.1),.p (pI yy.1.2.2.2.2.2.2.2.2.2.2.1)]]⟩) (fun (_ : Unit)=>K .normal ⟨mkS 149 [],[.box [.p (pI yy.1.1),.p (pI yy.1.2.1),.p (pI yy.1.2.2.1),.p (pI yy.1.2.2.2.1),.p (pI yy.1.2.2.2.2.1),.p (pI yy.1.2.2.2.2.2.1),.p (pI yy.1.2.2.2.2.2.2.1),.p (pI yy.1.2.2.2.2.2.2.2.1),.p (pI yy.1.2.2.2.2.2.2.2.2.1),.p (pI yy.1.2.2.2.2.2.2.2.2.2.1),.p (pI yy.1.2.2.2.2.2.2.2.2.2.2.1)]]⟩)
def f80_tab : List (Nat×Told):=[(31,f80_p31L),(21,f80_p21L),(13,f80_p13L)]
def f80_call : FuncId→List TV→List Entry→(TV→List Entry→Prop)→Prop:=addCall 82 f82_G (addCall 81 f81_G (addCall 46 f46_G (noCalls)))
def f80_C : Ctx:=mkC [(31,[(0,[1,4,6,78]),(1,[]),(2,[3]),(3,[])]),(21,[(0,[1,4,6,44]),(1,[]),(2,[3]),(3,[])]),(13,[(0,[1,4,6,24]),(1,[]),(2,[3]),(3,[])])] [] [] [] [] false 1 true (lookL f80_tab) f80_call
theorem f80_p31e0 (n_15 : Int) (b_16 : Bool) (n_17 n_18 : Int) (n_19 n_20 : Int) (n_21 n_22 : Int) (n_23 n_24 : Int) (n_25 n_26 : Int) (n_27 n_28 : Int) (n_29 n_30 : Int) (K : TExit→St→Prop) : (f80_p31 n_15 b_16 n_17 n_18 n_19 n_20 n_21 n_22 n_23 n_24 n_25 n_26 n_27 n_28 n_29 n_30 (fun b0_31=>K .ret ⟨mkS 149 [(3,B b0_31)],[.box [.p (pI n_17),.p (pI n_18),.p (pI n_19),.p (pI n_20),.p (pI n_21),.p (pI n_22),.p (pI n_23),.p (pI n_24),.p (pI n_25),.p (pI n_26),.p (pI n_27)]]⟩) (fun (_ : Unit)=>K .normal ⟨mkS 149 [],[.box [.p (pI n_17),.p (pI n_18),.p (pI n_19),.p (pI n_20),.p (pI n_21),.p (pI n_22),.p (pI n_23),.p (pI n_24),.p (pI n_25),.p (pI n_26),.p (pI n_27)]]⟩)) = execT f80_C (nthC (tails (bodyOf Tryd.f80)) 12) ⟨mkS 149 [(1,.w (.one (.ptr 0 0 0))),(4,.w (.one (.ptr 1 0 0))),(6,I n_15),(78,B b_16)],[.box [.p (pI n_17),.p (pI n_18),.p (pI n_19),.p (pI n_20),.p (pI n_21),.p (pI n_22),.p (pI n_23),.p (pI n_24),.p (pI n_25),.p (pI n_26),.p (pI n_27)],.box [.p (pI n_28),.p (pI n_29),.p (pI n_30)]]⟩ (fun e s=>K e (normOut f80_C 31 e s)):=by kernel_rfl
theorem f80_p21e0 (n_32 : Int) (b_33 : Bool) (n_34 n_35 : Int) (n_36 n_37 : Int) (n_38 n_39 : Int) (n_40 n_41 : Int) (n_42 n_43 : Int) (n_44 n_45 : Int) (n_46 n_47 : Int) (K : TExit→St→Prop) : (f80_p21 n_32 b_33 n_34 n_35 n_36 n_37 n_38 n_39 n_40 n_41 n_42 n_43 n_44 n_45 n_46 n_47 (fun b0_48=>K .ret ⟨mkS 149 [(3,B b0_48)],[.box [.p (pI n_34),.p (pI n_35),.p (pI n_36),.p (pI n_37),.p (pI n_38),.p (pI n_39),.p (pI n_40),.p (pI n_41),.p (pI n_42),.p (pI n_43),.p (pI n_44)]]⟩) (fun (_ : Unit)=>K .normal ⟨mkS 149 [],[.box [.p (pI n_34),.p (pI n_35),.p (pI n_36),.p (pI n_37),.p (pI n_38),.p (pI n_39),.p (pI n_40),.p (pI n_41),.p (pI n_42),.p (pI n_43),.p (pI n_44)]]⟩)) = execT f80_C (nthC (tails (bodyOf Tryd.f80)) 8) ⟨mkS 149 [(1,.w (.one (.ptr 0 0 0))),(4,.w (.one (.ptr 1 0 0))),(6,I n_32),(44,B b_33)],[.box [.p (pI n_34),.p (pI n_35),.p (pI n_36),.p (pI n_37),.p (pI n_38),.p (pI n_39),.p (pI n_40),.p (pI n_41),.p (pI n_42),.p (pI n_43),.p (pI n_44)],.box [.p (pI n_45),.p (pI n_46),.p (pI n_47)]]⟩ (fun e s=>K e (normOut f80_C 21 e s)):=by kernel_rfl
theorem f80_p13e0 (n_49 : Int) (b_50 : Bool) (n_51 n_52 : Int) (n_53 n_54 : Int) (n_55 n_56 : Int) (n_57 n_58 : Int) (n_59 n_60 : Int) (n_61 n_62 : Int) (n_63 n_64 : Int) (K : TExit→St→Prop) : (f80_p13 n_49 b_50 n_51 n_52 n_53 n_54 n_55 n_56 n_57 n_58 n_59 n_60 n_61 n_62 n_63 n_64 (fun b0_65=>K .ret ⟨mkS 149 [(3,B b0_65)],[.box [.p (pI n_51),.p (pI n_52),.p (pI n_53),.p (pI n_54),.p (pI n_55),.p (pI n_56),.p (pI n_57),.p (pI n_58),.p (pI n_59),.p (pI n_60),.p (pI n_61)]]⟩) (fun (_ : Unit)=>K .normal ⟨mkS 149 [],[.box [.p (pI n_51),.p (pI n_52),.p (pI n_53),.p (pI n_54),.p (pI n_55),.p (pI n_56),.p (pI n_57),.p (pI n_58),.p (pI n_59),.p (pI n_60),.p (pI n_61)]]⟩)) = execT f80_C (nthC (tails (bodyOf Tryd.f80)) 5) ⟨mkS 149 [(1,.w (.one (.ptr 0 0 0))),(4,.w (.one (.ptr 1 0 0))),(6,I n_49),(24,B b_50)],[.box [.p (pI n_51),.p (pI n_52),.p (pI n_53),.p (pI n_54),.p (pI n_55),.p (pI n_56),.p (pI n_57),.p (pI n_58),.p (pI n_59),.p (pI n_60),.p (pI n_61)],.box [.p (pI n_62),.p (pI n_63),.p (pI n_64)]]⟩ (fun e s=>K e (normOut f80_C 13 e s)):=by kernel_rfl
set_option maxHeartbeats 4000000 in
theorem f80_p31_ok : TailOk f80_C (nthC (tails (bodyOf Tryd.f80)) 12):=by
  refine TailOk.of f80_p31L (by kernel_rfl) fun σ K h=>?_
  have hk : joinKey (nthC (tails (bodyOf Tryd.f80)) 12) = 31:=by kernel_rfl
  rw [hk] at h ⊢
  generalize hs : normK f80_C 31 σ = s at h
  obtain ⟨tm,hp⟩:=s
  unfold f80_p31L at h
  dsimp only at h
  obtain ⟨xx,yy,rfl,rfl,h⟩:=getS_elim h
  have q : normK f80_C 31 σ = (⟨mkS 149 [(1,.w (.one (.ptr 0 0 0))),(4,.w (.one (.ptr 1 0 0))),(6,I xx.2.2.2.2.2.1),(78,B xx.2.2.2.2.2.2.2.1)],[.box [.p (pI yy.1.1),.p (pI yy.1.2.1),.p (pI yy.1.2.2.1),.p (pI yy.1.2.2.2.1),.p (pI yy.1.2.2.2.2.1),.p (pI yy.1.2.2.2.2.2.1),.p (pI yy.1.2.2.2.2.2.2.1),.p (pI yy.1.2.2.2.2.2.2.2.1),.p (pI yy.1.2.2.2.2.2.2.2.2.1),.p (pI yy.1.2.2.2.2.2.2.2.2.2.1),.p (pI yy.1.2.2.2.2.2.2.2.2.2.2.1)],.box [.p (pI yy.2.1.1),.p (pI yy.2.1.2.1),.p (pI yy.2.1.2.2.1)]]⟩ : St):=hs.trans (by kernel_rfl)
  rw [← hs,q,← f80_p31e0 xx.2.2.2.2.2.1 xx.2.2.2.2.2.2.2.1 yy.1.1 yy.1.2.1 yy.1.2.2.1 yy.1.2.2.2.1 yy.1.2.2.2.2.1 yy.1.2.2.2.2.2.1 yy.1.2.2.2.2.2.2.1 yy.1.2.2.2.2.2.2.2.1 yy.1.2.2.2.2.2.2.2.2.1 yy.1.2.2.2.2.2.2.2.2.2.1 yy.1.2.2.2.2.2.2.2.2.2.2.1 yy.2.1.1 yy.2.1.2.1 yy.2.1.2.2.1 K]
  exact h
set_option maxHeartbeats 4000000 in
theorem f80_p21_ok : TailOk f80_C (nthC (tails (bodyOf Tryd.f80)) 8):=by
  refine TailOk.of f80_p21L (by kernel_rfl) fun σ K h=>?_
  have hk : joinKey (nthC (tails (bodyOf Tryd.f80)) 8) = 21:=by kernel_rfl
  rw [hk] at h ⊢
  generalize hs : normK f80_C 21 σ = s at h
  obtain ⟨tm,hp⟩:=s
  unfold f80_p21L at h
  dsimp only at h
  obtain ⟨xx,yy,rfl,rfl,h⟩:=getS_elim h
  have q : normK f80_C 21 σ = (⟨mkS 149 [(1,.w (.one (.ptr 0 0 0))),(4,.w (.one (.ptr 1 0 0))),(6,I xx.2.2.2.2.2.1),(44,B xx.2.2.2.2.2.2.2.1)],[.box [.p (pI yy.1.1),.p (pI yy.1.2.1),.p (pI yy.1.2.2.1),.p (pI yy.1.2.2.2.1),.p (pI yy.1.2.2.2.2.1),.p (pI yy.1.2.2.2.2.2.1),.p (pI yy.1.2.2.2.2.2.2.1),.p (pI yy.1.2.2.2.2.2.2.2.1),.p (pI yy.1.2.2.2.2.2.2.2.2.1),.p (pI yy.1.2.2.2.2.2.2.2.2.2.1),.p (pI yy.1.2.2.2.2.2.2.2.2.2.2.1)],.box [.p (pI yy.2.1.1),.p (pI yy.2.1.2.1),.p (pI yy.2.1.2.2.1)]]⟩ : St):=hs.trans (by kernel_rfl)
  rw [← hs,q,← f80_p21e0 xx.2.2.2.2.2.1 xx.2.2.2.2.2.2.2.1 yy.1.1 yy.1.2.1 yy.1.2.2.1 yy.1.2.2.2.1 yy.1.2.2.2.2.1 yy.1.2.2.2.2.2.1 yy.1.2.2.2.2.2.2.1 yy.1.2.2.2.2.2.2.2.1 yy.1.2.2.2.2.2.2.2.2.1 yy.1.2.2.2.2.2.2.2.2.2.1 yy.1.2.2.2.2.2.2.2.2.2.2.1 yy.2.1.1 yy.2.1.2.1 yy.2.1.2.2.1 K]
  exact h
set_option maxHeartbeats 4000000 in
theorem f80_p13_ok : TailOk f80_C (nthC (tails (bodyOf Tryd.f80)) 5):=by
  refine TailOk.of f80_p13L (by kernel_rfl) fun σ K h=>?_
  have hk : joinKey (nthC (tails (bodyOf Tryd.f80)) 5) = 13:=by kernel_rfl
  rw [hk] at h ⊢
  generalize hs : normK f80_C 13 σ = s at h
  obtain ⟨tm,hp⟩:=s
  unfold f80_p13L at h
  dsimp only at h
  obtain ⟨xx,yy,rfl,rfl,h⟩:=getS_elim h
  have q : normK f80_C 13 σ = (⟨mkS 149 [(1,.w (.one (.ptr 0 0 0))),(4,.w (.one (.ptr 1 0 0))),(6,I xx.2.2.2.2.2.1),(24,B xx.2.2.2.2.2.2.2.1)],[.box [.p (pI yy.1.1),.p (pI yy.1.2.1),.p (pI yy.1.2.2.1),.p (pI yy.1.2.2.2.1),.p (pI yy.1.2.2.2.2.1),.p (pI yy.1.2.2.2.2.2.1),.p (pI yy.1.2.2.2.2.2.2.1),.p (pI yy.1.2.2.2.2.2.2.2.1),.p (pI yy.1.2.2.2.2.2.2.2.2.1),.p (pI yy.1.2.2.2.2.2.2.2.2.2.1),.p (pI yy.1.2.2.2.2.2.2.2.2.2.2.1)],.box [.p (pI yy.2.1.1),.p (pI yy.2.1.2.1),.p (pI yy.2.1.2.2.1)]]⟩ : St):=hs.trans (by kernel_rfl)
  rw [← hs,q,← f80_p13e0 xx.2.2.2.2.2.1 xx.2.2.2.2.2.2.2.1 yy.1.1 yy.1.2.1 yy.1.2.2.1 yy.1.2.2.2.1 yy.1.2.2.2.2.1 yy.1.2.2.2.2.2.1 yy.1.2.2.2.2.2.2.1 yy.1.2.2.2.2.2.2.2.1 yy.1.2.2.2.2.2.2.2.2.1 yy.1.2.2.2.2.2.2.2.2.2.1 yy.1.2.2.2.2.2.2.2.2.2.2.1 yy.2.1.1 yy.2.1.2.1 yy.2.1.2.2.1 K]
  exact h
def f80_G0 : List TV→List Entry→(TV→List Entry→Prop)→Prop:=fun tm hp K=>getS [.v (.one (.int .i64)),.v (.one (.ptr 0 0 0))] [.box [.int .i64,.int .i64,.int .i64,.int .i64,.int .i64,.int .i64,.int .i64,.int .i64,.int .i64,.int .i64,.int .i64]] tm hp fun (xx : (Int×(Unit×Unit))) (yy : ((Int×(Int×(Int×(Int×(Int×(Int×(Int×(Int×(Int×(Int×(Int×Unit)))))))))))×Unit))=>f80 xx.1 yy.1.1 yy.1.2.1 yy.1.2.2.1 yy.1.2.2.2.1 yy.1.2.2.2.2.1 yy.1.2.2.2.2.2.1 yy.1.2.2.2.2.2.2.1 yy.1.2.2.2.2.2.2.2.1 yy.1.2.2.2.2.2.2.2.2.1 yy.1.2.2.2.2.2.2.2.2.2.1 yy.1.2.2.2.2.2.2.2.2.2.2.1 (fun b0_3 n0_4 n0_5 n0_6 n0_7 n0_8 n0_9 n0_10 n0_11 n0_12 n0_13 n0_14=>K (B b0_3) [.box [.p (pI n0_4),.p (pI n0_5),.p (pI n0_6),.p (pI n0_7),.p (pI n0_8),.p (pI n0_9),.p (pI n0_10),.p (pI n0_11),.p (pI n0_12),.p (pI n0_13),.p (pI n0_14)]])
theorem f80_eq (n_66 n_67 : Int) (n_68 n_69 : Int) (n_70 n_71 : Int) (n_72 n_73 : Int) (n_74 n_75 : Int) (n_76 n_77 : Int) (K : TV→List Entry→Prop) : (f80_d n_66 n_67 n_68 n_69 n_70 n_71 n_72 n_73 n_74 n_75 n_76 n_77 (fun b0_3 n0_4 n0_5 n0_6 n0_7 n0_8 n0_9 n0_10 n0_11 n0_12 n0_13 n0_14=>K (B b0_3) [.box [.p (pI n0_4),.p (pI n0_5),.p (pI n0_6),.p (pI n0_7),.p (pI n0_8),.p (pI n0_9),.p (pI n0_10),.p (pI n0_11),.p (pI n0_12),.p (pI n0_13),.p (pI n0_14)]])) = funcT f80_C Tryd.f80 [I n_66,.w (.one (.ptr 0 0 0))] [.box [.p (pI n_67),.p (pI n_68),.p (pI n_69),.p (pI n_70),.p (pI n_71),.p (pI n_72),.p (pI n_73),.p (pI n_74),.p (pI n_75),.p (pI n_76),.p (pI n_77)]] K:=by kernel_rfl
set_option maxHeartbeats 4000000 in
theorem f80_ok0 : FnOk Tryd.prog glob 80 f80_G0:=by
  refine FnOk.of_text (C:=f80_C) tab_ok.ok (Known.add f82_G_ok (Known.add f81_G_ok (Known.add f46_G_ok (Known.none)))) follows_ok (fn:=Tryd.f80) (by kernel_rfl) (by kernel_rfl) (by kernel_rfl) (fun c hc=>?_) fun tm hp K h=>?_
  · have e : c = bodyOf Tryd.f80:=Option.some.inj (hc.symm.trans (by kernel_rfl))
    subst e
    exact ⟨LoopsOk.of [] (by kernel_rfl) trivial,TailsOk.of (tab:=f80_tab) rfl [nthC (tails (bodyOf Tryd.f80)) 5,nthC (tails (bodyOf Tryd.f80)) 8,nthC (tails (bodyOf Tryd.f80)) 12] (by kernel_rfl) ⟨f80_p13_ok,f80_p21_ok,f80_p31_ok,trivial⟩⟩
  · unfold f80_G0 at h
    obtain ⟨xx,yy,rfl,rfl,h⟩:=getS_elim h
    have e:=(f80_eq xx.1 yy.1.1 yy.1.2.1 yy.1.2.2.1 yy.1.2.2.2.1 yy.1.2.2.2.2.1 yy.1.2.2.2.2.2.1 yy.1.2.2.2.2.2.2.1 yy.1.2.2.2.2.2.2.2.1 yy.1.2.2.2.2.2.2.2.2.1 yy.1.2.2.2.2.2.2.2.2.2.1 yy.1.2.2.2.2.2.2.2.2.2.2.1 K).trans (show _ = funcT f80_C Tryd.f80 (mkR _ xx) (mkE _ yy) K by kernel_rfl)
    rw [← e]
    exact h.run
abbrev f80_G:=f80_G0
theorem f80_G_ok : FnOk Tryd.prog glob 80 f80_G:=f80_ok0
def f37_p14b0 (n18 n19 : Int) (n20 n21 : Int) (N0 : Int→Int→Int→Int→Prop) (N1 : Int→Int→Int→Int→Int→Int→Int→Int→Int→Int→Int→Int→Int→Prop) (k0 : Int→Int→Prop) (k1 : Unit→Prop) : Prop:=f49 n18 (fun b22=>bB b22 (f79 n18 n20 n21 (fun b23 n24 n25=>bB b23 (k0 n18 0) (N0 (w64 (n18 + n19)) n19 n24 n25))) (k1 ()))
def f37_p14b1 (n26 n27 : Int) (n28 n29 : Int) (n30 n31 : Int) (n32 n33 : Int) (n34 n35 : Int) (n36 n37 n38 : Int) (N0 : Int→Int→Int→Int→Prop) (N1 : Int→Int→Int→Int→Int→Int→Int→Int→Int→Int→Int→Int→Int→Prop) (k0 : Int→Int→Prop) (k1 : Unit→Prop) : Prop:=f49 n26 (fun b39=>bB b39 (f80 n26 n28 n29 n30 n31 n32 n33 n34 n35 n36 n37 n38 (fun b40 n41 n42 n43 n44 n45 n46 n47 n48 n49 n50 n51=>bB b40 (k0 n26 0) (N1 (w64 (n26 + n27)) n27 n41 n42 n43 n44 n45 n46 n47 n48 n49 n50 n51))) (k1 ()))
def f37_p14 (k0 : Int→Int→Prop) (k1 : Unit→Prop) : (Int×Int×Int×Int) ⊕ (Int×Int×Int×Int×Int×Int×Int×Int×Int×Int×Int×Int×Int)→Prop:=LoopP fun x N=>match x with
  | (.inl x)=>f37_p14b0 x.1 x.2.1 x.2.2.1 x.2.2.2 (fun n18 n19 n20 n21=>N (.inl (n18,n19,n20,n21))) (fun n26 n27 n28 n29 n30 n31 n32 n33 n34 n35 n36 n37 n38=>N (.inr (n26,n27,n28,n29,n30,n31,n32,n33,n34,n35,n36,n37,n38))) k0 k1
  | (.inr x)=>f37_p14b1 x.1 x.2.1 x.2.2.1 x.2.2.2.1 x.2.2.2.2.1 x.2.2.2.2.2.1 x.2.2.2.2.2.2.1 x.2.2.2.2.2.2.2.1 x.2.2.2.2.2.2.2.2.1 x.2.2.2.2.2.2.2.2.2.1 x.2.2.2.2.2.2.2.2.2.2.1 x.2.2.2.2.2.2.2.2.2.2.2.1 x.2.2.2.2.2.2.2.2.2.2.2.2 (fun n18 n19 n20 n21=>N (.inl (n18,n19,n20,n21))) (fun n26 n27 n28 n29 n30 n31 n32 n33 n34 n35 n36 n37 n38=>N (.inr (n26,n27,n28,n29,n30,n31,n32,n33,n34,n35,n36,n37,n38))) k0 k1
def f37_d (n1 n2 : Int) (n3 n4 : Int) (n5 n6 : Int) (n7 n8 : Int) (n9 n10 : Int) (n11 n12 n13 : Int) (k0 : Int→Int→Prop) : Prop:=f16 n1 n2 n3 n4 n5 n6 n7 n8 n9 n10 n11 (fun n14=>bB (n14 != 0) (k0 0 n14) (f49 n12 (fun b15=>bB (!b15) (k0 0 1) (f50 n1 n2 n3 n4 n5 n6 n7 n8 n9 n10 n11 (fun n16 n17=>f37_p14 (fun n52 n53=>k0 n52 n53) (fun (_ : Unit)=>k0 0 9) (.inl (n12,n13,n16,n17))) (fun n54 n55 n56 n57 n58 n59 n60 n61 n62 n63 n64=>f37_p14 (fun n65 n66=>k0 n65 n66) (fun (_ : Unit)=>k0 0 9) (.inr (n12,n13,n54,n55,n56,n57,n58,n59,n60,n61,n62,n63,n64)))))))
structure f37 (n1 n2 : Int) (n3 n4 : Int) (n5 n6 : Int) (n7 n8 : Int) (n9 n10 : Int) (n11 n12 n13 : Int) (k0 : Int→Int→Prop) : Prop where
  run : f37_d n1 n2 n3 n4 n5 n6 n7 n8 n9 n10 n11 n12 n13 k0
def f37_p14L : Told:=fun s K=>match s with
  | ⟨tm,hp⟩=>bif isSig (sigOf tm hp) [0,2,2,0,0,0,0,0,0,100079,0,0,0,0,0,0,0,0,0,0,0,0,0,0,0,0,0,0,0,7,20,2,20,2] then (getS [.skip 1,.v (.one (.int .i64)),.v (.one (.int .i64)),.skip 6,.v (.clo 79 [] [.ptr 0 0 0,.ptr 1 0 0]),.skip 19] [.box [.int .i64],.box [.int .i64]] tm hp fun (xx : (Unit×(Int×(Int×(Unit×((Unit×(Unit×(Unit×Unit)))×(Unit×Unit))))))) (yy : ((Int×Unit)×((Int×Unit)×Unit)))=>f37_p14 (fun n0_0 n0_1=>K .ret ⟨mkS 29 [(6,I n0_0),(7,I n0_1)],[]⟩) (fun (_ : Unit)=>K (.exit 0) ⟨mkS 29 [],[]⟩) (.inl (xx.2.1,xx.2.2.1,yy.1.1,yy.2.1.1))) else (getS [.skip 1,.v (.one (.int .i64)),.v (.one (.int .i64)),.skip 6,.v (.clo 80 [] [.ptr 0 0 0]),.skip 19] [.box [.int .i64,.int .i64,.int .i64,.int .i64,.int .i64,.int .i64,.int .i64,.int .i64,.int .i64,.int .i64,.int .i64]] tm hp fun (xx : (Unit×(Int×(Int×(Unit×((Unit×(Unit×Unit))×(Unit×Unit))))))) (yy : ((Int×(Int×(Int×(Int×(Int×(Int×(Int×(Int×(Int×(Int×(Int×Unit)))))))))))×Unit))=>f37_p14 (fun n0_2 n0_3=>K .ret ⟨mkS 29 [(6,I n0_2),(7,I n0_3)],[]⟩) (fun (_ : Unit)=>K (.exit 0) ⟨mkS 29 [],[]⟩) (.inr (xx.2.1,xx.2.2.1,yy.1.1,yy.1.2.1,yy.1.2.2.1,yy.1.2.2.2.1,yy.1.2.2.2.2.1,yy.1.2.2.2.2.2.1,yy.1.2.2.2.2.2.2.1,yy.1.2.2.2.2.2.2.2.1,yy.1.2.2.2.2.2.2.2.2.1,yy.1.2.2.2.2.2.2.2.2.2.1,yy.1.2.2.2.2.2.2.2.2.2.2.1)))
def f37_tab : List (Nat×Told):=[(14,f37_p14L)]
def f37_call : FuncId→List TV→List Entry→(TV→List Entry→Prop)→Prop:=addCall 80 f80_G (addCall 79 f79_G (addCall 50 f50_G (addCall 49 f49_G (addCall 16 f16_G (noCalls)))))
def f37_C : Ctx:=mkC [(14,[(0,[1,2,9]),(2,[6,7]),(3,[])])] [] [] [] [] false 0 true (lookL f37_tab) f37_call
def f37_p14_mk (x : (Int×Int×Int×Int) ⊕ (Int×Int×Int×Int×Int×Int×Int×Int×Int×Int×Int×Int×Int)) : St:=match x with
  | (.inl x)=>⟨mkS 29 [(1,I x.1),(2,I x.2.1),(9,.w (.one (.clo 79 [] [.ptr 0 0 0,.ptr 1 0 0])))],[.box [.p (pI x.2.2.1)],.box [.p (pI x.2.2.2)]]⟩
  | (.inr x)=>⟨mkS 29 [(1,I x.1),(2,I x.2.1),(9,.w (.one (.clo 80 [] [.ptr 0 0 0])))],[.box [.p (pI x.2.2.1),.p (pI x.2.2.2.1),.p (pI x.2.2.2.2.1),.p (pI x.2.2.2.2.2.1),.p (pI x.2.2.2.2.2.2.1),.p (pI x.2.2.2.2.2.2.2.1),.p (pI x.2.2.2.2.2.2.2.2.1),.p (pI x.2.2.2.2.2.2.2.2.2.1),.p (pI x.2.2.2.2.2.2.2.2.2.2.1),.p (pI x.2.2.2.2.2.2.2.2.2.2.2.1),.p (pI x.2.2.2.2.2.2.2.2.2.2.2.2)]]⟩
theorem f37_p14e0 (n_23 n_24 : Int) (n_25 n_26 : Int) (N : St→Prop) (K : TExit→St→Prop) : (f37_p14b0 n_23 n_24 n_25 n_26 (fun z0 z1 z2 z3=>N (f37_p14_mk (.inl (z0,z1,z2,z3)))) (fun z0 z1 z2 z3 z4 z5 z6 z7 z8 z9 z10 z11 z12=>N (f37_p14_mk (.inr (z0,z1,z2,z3,z4,z5,z6,z7,z8,z9,z10,z11,z12)))) (fun n0_27 n0_28=>K .ret ⟨mkS 29 [(6,I n0_27),(7,I n0_28)],[]⟩) (fun (_ : Unit)=>K (.exit 0) ⟨mkS 29 [],[]⟩)) = execT f37_C (bd Tryd.f37 0) (f37_p14_mk (.inl (n_23,n_24,n_25,n_26))) (loopK N (normK f37_C 14) fun e s=>K e (normOut f37_C 14 e s)):=by kernel_rfl
theorem f37_p14e1 (n_29 n_30 : Int) (n_31 n_32 : Int) (n_33 n_34 : Int) (n_35 n_36 : Int) (n_37 n_38 : Int) (n_39 n_40 n_41 : Int) (N : St→Prop) (K : TExit→St→Prop) : (f37_p14b1 n_29 n_30 n_31 n_32 n_33 n_34 n_35 n_36 n_37 n_38 n_39 n_40 n_41 (fun z0 z1 z2 z3=>N (f37_p14_mk (.inl (z0,z1,z2,z3)))) (fun z0 z1 z2 z3 z4 z5 z6 z7 z8 z9 z10 z11 z12=>N (f37_p14_mk (.inr (z0,z1,z2,z3,z4,z5,z6,z7,z8,z9,z10,z11,z12)))) (fun n0_42 n0_43=>K .ret ⟨mkS 29 [(6,I n0_42),(7,I n0_43)],[]⟩) (fun (_ : Unit)=>K (.exit 0) ⟨mkS 29 [],[]⟩)) = execT f37_C (bd Tryd.f37 0) (f37_p14_mk (.inr (n_29,n_30,n_31,n_32,n_33,n_34,n_35,n_36,n_37,n_38,n_39,n_40,n_41))) (loopK N (normK f37_C 14) fun e s=>K e (normOut f37_C 14 e s)):=by kernel_rfl
set_option maxHeartbeats 4000000 in
theorem f37_p14_ok : LoopOk f37_C (bd Tryd.f37 0):=by
  refine LoopOk.of f37_p14L (by kernel_rfl) fun σ K h=>?_
  have hk : loopKey (bd Tryd.f37 0) = 14:=by kernel_rfl
  rw [hk] at h ⊢
  generalize hs : normK f37_C 14 σ = s at h
  obtain ⟨tm,hp⟩:=s
  unfold f37_p14L at h
  dsimp only at h
  cases hb0 : isSig (sigOf tm hp) [0,2,2,0,0,0,0,0,0,100079,0,0,0,0,0,0,0,0,0,0,0,0,0,0,0,0,0,0,0,7,20,2,20,2] with
  | true =>
    rw [hb0] at h
    clear hb0
    simp only [cond_true] at h
    obtain ⟨xx,yy,rfl,rfl,h⟩:=getS_elim h
    refine iter_of (f37_p14_mk) (fun x N h=>?_) rounds _ σ (hs.trans (by kernel_rfl)) (LoopP.run h)
    rcases x with x | x
    · obtain ⟨y0,y1,y2,y3⟩:=x
      rw [← f37_p14e0 y0 y1 y2 y3 N K]
      exact h
    · obtain ⟨y0,y1,y2,y3,y4,y5,y6,y7,y8,y9,y10,y11,y12⟩:=x
      rw [← f37_p14e1 y0 y1 y2 y3 y4 y5 y6 y7 y8 y9 y10 y11 y12 N K]
      exact h
  | false =>
  rw [hb0] at h
  simp only [cond_false] at h
  clear hb0
  obtain ⟨xx,yy,rfl,rfl,h⟩:=getS_elim h
  refine iter_of (f37_p14_mk) (fun x N h=>?_) rounds _ σ (hs.trans (by kernel_rfl)) (LoopP.run h)
  rcases x with x | x
  · obtain ⟨y0,y1,y2,y3⟩:=x
    rw [← f37_p14e0 y0 y1 y2 y3 N K]
    exact h
  · obtain ⟨y0,y1,y2,y3,y4,y5,y6,y7,y8,y9,y10,y11,y12⟩:=x
    rw [← f37_p14e1 y0 y1 y2 y3 y4 y5 y6 y7 y8 y9 y10 y11 y12 N K]
    exact h
def f37_G0 : List TV→List Entry→(TV→List Entry→Prop)→Prop:=fun tm hp K=>getS [.v (.pagg [.int .i64,.int .i64,.int .i64,.int .i64,.int .i64,.int .i64,.int .i64,.int .i64,.int .i64,.int .i64,.int .i64]),.v (.one (.int .i64)),.v (.one (.int .i64))] [] tm hp fun (xx : ((Int×(Int×(Int×(Int×(Int×(Int×(Int×(Int×(Int×(Int×(Int×Unit)))))))))))×(Int×(Int×Unit)))) (yy : Unit)=>f37 xx.1.1 xx.1.2.1 xx.1.2.2.1 xx.1.2.2.2.1 xx.1.2.2.2.2.1 xx.1.2.2.2.2.2.1 xx.1.2.2.2.2.2.2.1 xx.1.2.2.2.2.2.2.2.1 xx.1.2.2.2.2.2.2.2.2.1 xx.1.2.2.2.2.2.2.2.2.2.1 xx.1.2.2.2.2.2.2.2.2.2.2.1 xx.2.1 xx.2.2.1 (fun n0_4 n0_5=>K (.tup [.one (.p (pI n0_4)),.one (.p (pI n0_5))]) [])
theorem f37_eq (n_44 n_45 : Int) (n_46 n_47 : Int) (n_48 n_49 : Int) (n_50 n_51 : Int) (n_52 n_53 : Int) (n_54 n_55 n_56 : Int) (K : TV→List Entry→Prop) : (f37_d n_44 n_45 n_46 n_47 n_48 n_49 n_50 n_51 n_52 n_53 n_54 n_55 n_56 (fun n0_4 n0_5=>K (.tup [.one (.p (pI n0_4)),.one (.p (pI n0_5))]) [])) = funcT f37_C Tryd.f37 [.w (.pagg [pI n_44,pI n_45,pI n_46,pI n_47,pI n_48,pI n_49,pI n_50,pI n_51,pI n_52,pI n_53,pI n_54]),I n_55,I n_56] [] K:=by kernel_rfl
set_option maxHeartbeats 4000000 in
theorem f37_ok0 : FnOk Tryd.prog glob 37 f37_G0:=by
  refine FnOk.of_text (C:=f37_C) tab_ok.ok (Known.add f80_G_ok (Known.add f79_G_ok (Known.add f50_G_ok (Known.add f49_G_ok (Known.add f16_G_ok (Known.none)))))) follows_ok (fn:=Tryd.f37) (by kernel_rfl) (by kernel_rfl) (by kernel_rfl) (fun c hc=>?_) fun tm hp K h=>?_
  · have e : c = bodyOf Tryd.f37:=Option.some.inj (hc.symm.trans (by kernel_rfl))
    subst e
    exact ⟨LoopsOk.of [bd Tryd.f37 0] (by kernel_rfl) ⟨f37_p14_ok,trivial⟩,TailsOk.of (tab:=f37_tab) rfl [] (by kernel_rfl) trivial⟩
  · unfold f37_G0 at h
    obtain ⟨xx,yy,rfl,rfl,h⟩:=getS_elim h
    have e:=(f37_eq xx.1.1 xx.1.2.1 xx.1.2.2.1 xx.1.2.2.2.1 xx.1.2.2.2.2.1 xx.1.2.2.2.2.2.1 xx.1.2.2.2.2.2.2.1 xx.1.2.2.2.2.2.2.2.1 xx.1.2.2.2.2.2.2.2.2.1 xx.1.2.2.2.2.2.2.2.2.2.1 xx.1.2.2.2.2.2.2.2.2.2.2.1 xx.2.1 xx.2.2.1 K).trans (show _ = funcT f37_C Tryd.f37 (mkR _ xx) (mkE _ yy) K by kernel_rfl)
    rw [← e]
    exact h.run
abbrev f37_G:=f37_G0
theorem f37_G_ok : FnOk Tryd.prog glob 37 f37_G:=f37_ok0
def f60_d (n1 n2 n3 : Int) (k0 : Bool→Prop) : Prop:=bB (decide (n1 < 0)) (k0 true) (k0 (decide (n1≥1440)))
structure f60 (n1 n2 n3 : Int) (k0 : Bool→Prop) : Prop where
  run : f60_d n1 n2 n3 k0
def f60_tab : List (Nat×Told):=[]
def f60_call : FuncId→List TV→List Entry→(TV→List Entry→Prop)→Prop:=noCalls
def f60_C : Ctx:=mkC [] [] [] [] [] false 0 true (lookL f60_tab) f60_call
def f60_G0 : List TV→List Entry→(TV→List Entry→Prop)→Prop:=fun tm hp K=>getS [.v (.pagg [.int .i64,.int .i64,.int .i64])] [] tm hp fun (xx : ((Int×(Int×(Int×Unit)))×Unit)) (yy : Unit)=>f60 xx.1.1 xx.1.2.1 xx.1.2.2.1 (fun b0_0=>K (B b0_0) [])
theorem f60_eq (n_1 n_2 n_3 : Int) (K : TV→List Entry→Prop) : (f60_d n_1 n_2 n_3 (fun b0_0=>K (B b0_0) [])) = funcT f60_C Tryd.f60 [.w (.pagg [pI n_1,pI n_2,pI n_3])] [] K:=by kernel_rfl
set_option maxHeartbeats 4000000 in
theorem f60_ok0 : FnOk Tryd.prog glob 60 f60_G0:=by
  refine FnOk.of_text (C:=f60_C) tab_ok.ok (Known.none) follows_ok (fn:=Tryd.f60) (by kernel_rfl) (by kernel_rfl) (by kernel_rfl) (fun c hc=>?_) fun tm hp K h=>?_
  · have e : c = bodyOf Tryd.f60:=Option.some.inj (hc.symm.trans (by kernel_rfl))
    subst e
    exact ⟨LoopsOk.of [] (by kernel_rfl) trivial,TailsOk.of (tab:=f60_tab) rfl [] (by kernel_rfl) trivial⟩
  · unfold f60_G0 at h
    obtain ⟨xx,yy,rfl,rfl,h⟩:=getS_elim h
    have e:=(f60_eq xx.1.1 xx.1.2.1 xx.1.2.2.1 K).trans (show _ = funcT f60_C Tryd.f60 (mkR _ xx) (mkE _ yy) K by kernel_rfl)
    rw [← e]
    exact h.run
abbrev f60_G:=f60_G0
theorem f60_G_ok : FnOk Tryd.prog glob 60 f60_G:=f60_ok0
def f83_p4b0 (es3 : LL) (full4 : Bool) (n5 n6 : Int) (N0 : Int→Prop) (k0 : Int→Prop) (k1 : Unit→Prop) : Prop:=bB (decide (n6 < n5)) ((0≤n6∧n6 < (es3.length : Int))∧cI .i64 (ext (List.getD es3 (Int.toNat n6) []) 0 3) fun n8 r7=>cI .i64 r7 fun n10 r9=>cI .i64 r9 fun n12 r11=>nilC r11 <| f60 n8 n10 n12 (fun b13=>bB b13 (k0 n6) (N0 (w64 (n6 + 1))))) (k1 ())
def f83_p4 (es3 : LL) (full4 : Bool) (n5 : Int) (k0 : Int→Prop) (k1 : Unit→Prop) : Int→Prop:=LoopP fun x N=>f83_p4b0 es3 full4 n5 x (fun n6=>N n6) k0 k1
def f83_d (es1 : LL) (full2 : Bool) (k0 : Int→Prop) : Prop:=f83_p4 es1 full2 (es1.length : Int) k0 (fun (_ : Unit)=>k0 (-1)) 0
structure f83 (es1 : LL) (full2 : Bool) (k0 : Int→Prop) : Prop where
  run : f83_d es1 full2 k0
def f83_p4L : Told:=fun s K=>match s with
  | ⟨tm,hp⟩=>getS [.v (.one (.sl 3)),.v (.one (.fn 60)),.skip 5,.v (.one (.int .i64)),.v (.one (.int .i64)),.skip 10] [] tm hp fun (xx : ((LL×Bool)×(Unit×(Unit×(Int×(Int×(Unit×Unit))))))) (yy : Unit)=>f83_p4 xx.1.1 xx.1.2 xx.2.2.2.1 (fun n0_0=>K .ret ⟨mkS 19 [(4,I n0_0)],[]⟩) (fun (_ : Unit)=>K (.exit 0) ⟨mkS 19 [],[]⟩) xx.2.2.2.2.1
def f83_tab : List (Nat×Told):=[(4,f83_p4L)]
def f83_call : FuncId→List TV→List Entry→(TV→List Entry→Prop)→Prop:=addCall 60 f60_G (noCalls)
def f83_C : Ctx:=mkC [(4,[(0,[0,1,7,8]),(2,[4]),(3,[])])] [] [] [] [] false 0 true (lookL f83_tab) f83_call
def f83_p4_mk (es3 : LL) (full4 : Bool) (n5 x : Int) : St:=⟨mkS 19 [(0,.w (.one (.p (.sl 3 es3 full4)))),(1,.w (.one (.p (.c (.func (.func 60) #[] #[]))))),(7,I n5),(8,I x)],[]⟩
theorem f83_p4e0 (es_6 : LL) (full_7 : Bool) (n_8 n_9 : Int) (N : St→Prop) (K : TExit→St→Prop) : (f83_p4b0 es_6 full_7 n_8 n_9 (fun z3=>N (f83_p4_mk es_6 full_7 n_8 z3)) (fun n0_10=>K .ret ⟨mkS 19 [(4,I n0_10)],[]⟩) (fun (_ : Unit)=>K (.exit 0) ⟨mkS 19 [],[]⟩)) = execT f83_C (bd Tryd.f83 0) (f83_p4_mk es_6 full_7 n_8 n_9) (loopK N (normK f83_C 4) fun e s=>K e (normOut f83_C 4 e s)):=by kernel_rfl
set_option maxHeartbeats 4000000 in
theorem f83_p4_ok : LoopOk f83_C (bd Tryd.f83 0):=by
  refine LoopOk.of f83_p4L (by kernel_rfl) fun σ K h=>?_
  have hk : loopKey (bd Tryd.f83 0) = 4:=by kernel_rfl
  rw [hk] at h ⊢
  generalize hs : normK f83_C 4 σ = s at h
  obtain ⟨tm,hp⟩:=s
  unfold f83_p4L at h
  dsimp only at h
  obtain ⟨xx,yy,rfl,rfl,h⟩:=getS_elim h
  refine iter_of (f83_p4_mk xx.1.1 xx.1.2 xx.2.2.2.1) (fun x N h=>?_) rounds _ σ (hs.trans (by kernel_rfl)) (LoopP.run h)
  rw [← f83_p4e0 xx.1.1 xx.1.2 xx.2.2.2.1 x N K]
  exact h
def f83_G0 : List TV→List Entry→(TV→List Entry→Prop)→Prop:=fun tm hp K=>getS [.v (.one (.sl 3)),.v (.one (.fn 60))] [] tm hp fun (xx : ((LL×Bool)×(Unit×Unit))) (yy : Unit)=>f83 xx.1.1 xx.1.2 (fun n0_1=>K (I n0_1) [])
theorem f83_eq (es_11 : LL) (full_12 : Bool) (K : TV→List Entry→Prop) : (f83_d es_11 full_12 (fun n0_1=>K (I n0_1) [])) = funcT f83_C Tryd.f83 [.w (.one (.p (.sl 3 es_11 full_12))),.w (.one (.p (.c (.func (.func 60) #[] #[]))))] [] K:=by kernel_rfl
set_option maxHeartbeats 4000000 in
theorem f83_ok0 : FnOk Tryd.prog glob 83 f83_G0:=by
  refine FnOk.of_text (C:=f83_C) tab_ok.ok (Known.add f60_G_ok (Known.none)) follows_ok (fn:=Tryd.f83) (by kernel_rfl) (by kernel_rfl) (by kernel_rfl) (fun c hc=>?_) fun tm hp K h=>?_
  · have e : c = bodyOf Tryd.f83:=Option.some.inj (hc.symm.trans (by kernel_rfl))
    subst e
    exact ⟨LoopsOk.of [bd Tryd.f83 0] (by kernel_rfl) ⟨f83_p4_ok,trivial⟩,TailsOk.of (tab:=f83_tab) rfl [] (by kernel_rfl) trivial⟩
  · unfold f83_G0 at h
    obtain ⟨xx,yy,rfl,rfl,h⟩:=getS_elim h
    have e:=(f83_eq xx.1.1 xx.1.2 K).trans (show _ = funcT f83_C Tryd.f83 (mkR _ xx) (mkE _ yy) K by kernel_rfl)
    rw [← e]
    exact h.run
abbrev f83_G:=f83_G0
theorem f83_G_ok : FnOk Tryd.prog glob 83 f83_G:=f83_ok0
def f51_p6b0 (n3 : Int) (es4 : LL) (full5 : Bool) (n6 n7 : Int) (N0 : Int→Prop) (k0 : Int→Prop) (k1 : Unit→Prop) : Prop:=bB (decide (n7 < n6)) ((0≤n7∧n7 < (es4.length : Int))∧oI .i64 (ext (List.getD es4 (Int.toNat n7) []) 0 1) fun n8=>bB (n8 != n3) (k0 n8) (N0 (w64 (n7 + 1)))) (k1 ())
def f51_p6 (n3 : Int) (es4 : LL) (full5 : Bool) (n6 : Int) (k0 : Int→Prop) (k1 : Unit→Prop) : Int→Prop:=LoopP fun x N=>f51_p6b0 n3 es4 full5 n6 x (fun n7=>N n7) k0 k1
def f51_d (es1 : LL) (full2 : Bool) (k0 : Int→Prop) : Prop:=f51_p6 0 es1 full2 (es1.length : Int) k0 (fun (_ : Unit)=>k0 0) 0
structure f51 (es1 : LL) (full2 : Bool) (k0 : Int→Prop) : Prop where
  run : f51_d es1 full2 k0
def f51_p6L : Told:=fun s K=>match s with
  | ⟨tm,hp⟩=>getS [.skip 3,.v (.one (.int .i64)),.skip 2,.v (.one (.sl 1)),.v (.one (.int .i64)),.v (.one (.int .i64)),.skip 9] [] tm hp fun (xx : (Unit×(Int×(Unit×((LL×Bool)×(Int×(Int×(Unit×Unit)))))))) (yy : Unit)=>f51_p6 xx.2.1 xx.2.2.2.1.1 xx.2.2.2.1.2 xx.2.2.2.2.1 (fun n0_0=>K .ret ⟨mkS 18 [(2,I n0_0)],[]⟩) (fun (_ : Unit)=>K (.exit 0) ⟨mkS 18 [(3,I xx.2.1)],[]⟩) xx.2.2.2.2.2.1
def f51_tab : List (Nat×Told):=[(6,f51_p6L)]
def f51_call : FuncId→List TV→List Entry→(TV→List Entry→Prop)→Prop:=noCalls
def f51_C : Ctx:=mkC [(6,[(0,[3,6,7,8]),(2,[2]),(3,[3])])] [] [] [] [] false 0 true (lookL f51_tab) f51_call
def f51_p6_mk (n3 : Int) (es4 : LL) (full5 : Bool) (n6 x : Int) : St:=⟨mkS 18 [(3,I n3),(6,.w (.one (.p (.sl 1 es4 full5)))),(7,I n6),(8,I x)],[]⟩
theorem f51_p6e0 (n_7 : Int) (es_8 : LL) (full_9 : Bool) (n_10 n_11 : Int) (N : St→Prop) (K : TExit→St→Prop) : (f51_p6b0 n_7 es_8 full_9 n_10 n_11 (fun z4=>N (f51_p6_mk n_7 es_8 full_9 n_10 z4)) (fun n0_12=>K .ret ⟨mkS 18 [(2,I n0_12)],[]⟩) (fun (_ : Unit)=>K (.exit 0) ⟨mkS 18 [(3,I n_7)],[]⟩)) = execT f51_C (bd Tryd.f51 0) (f51_p6_mk n_7 es_8 full_9 n_10 n_11) (loopK N (normK f51_C 6) fun e s=>K e (normOut f51_C 6 e s)):=by kernel_rfl
set_option maxHeartbeats 4000000 in
theorem f51_p6_ok : LoopOk f51_C (bd Tryd.f51 0):=by
  refine LoopOk.of f51_p6L (by kernel_rfl) fun σ K h=>?_
  have hk : loopKey (bd Tryd.f51 0) = 6:=by kernel_rfl
  rw [hk] at h ⊢
  generalize hs : normK f51_C 6 σ = s at h
  obtain ⟨tm,hp⟩:=s
  unfold f51_p6L at h
  dsimp only at h
  obtain ⟨xx,yy,rfl,rfl,h⟩:=getS_elim h
  refine iter_of (f51_p6_mk xx.2.1 xx.2.2.2.1.1 xx.2.2.2.1.2 xx.2.2.2.2.1) (fun x N h=>?_) rounds _ σ (hs.trans (by kernel_rfl)) (LoopP.run h)
  rw [← f51_p6e0 xx.2.1 xx.2.2.2.1.1 xx.2.2.2.1.2 xx.2.2.2.2.1 x N K]
  exact h
def f51_G0 : List TV→List Entry→(TV→List Entry→Prop)→Prop:=fun tm hp K=>getS [.v (.one (.sl 1))] [] tm hp fun (xx : ((LL×Bool)×Unit)) (yy : Unit)=>f51 xx.1.1 xx.1.2 (fun n0_1=>K (I n0_1) [])
theorem f51_eq (es_13 : LL) (full_14 : Bool) (K : TV→List Entry→Prop) : (f51_d es_13 full_14 (fun n0_1=>K (I n0_1) [])) = funcT f51_C Tryd.f51 [.w (.one (.p (.sl 1 es_13 full_14)))] [] K:=by kernel_rfl
set_option maxHeartbeats 4000000 in
theorem f51_ok0 : FnOk Tryd.prog glob 51 f51_G0:=by
  refine FnOk.of_text (C:=f51_C) tab_ok.ok (Known.none) follows_ok (fn:=Tryd.f51) (by kernel_rfl) (by kernel_rfl) (by kernel_rfl) (fun c hc=>?_) fun tm hp K h=>?_
  · have e : c = bodyOf Tryd.f51:=Option.some.inj (hc.symm.trans (by kernel_rfl))
    subst e
    exact ⟨LoopsOk.of [bd Tryd.f51 0] (by kernel_rfl) ⟨f51_p6_ok,trivial⟩,TailsOk.of (tab:=f51_tab) rfl [] (by kernel_rfl) trivial⟩
  · unfold f51_G0 at h
    obtain ⟨xx,yy,rfl,rfl,h⟩:=getS_elim h
    have e:=(f51_eq xx.1.1 xx.1.2 K).trans (show _ = funcT f51_C Tryd.f51 (mkR _ xx) (mkE _ yy) K by kernel_rfl)
    rw [← e]
    exact h.run
abbrev f51_G:=f51_G0
theorem f51_G_ok : FnOk Tryd.prog glob 51 f51_G:=f51_ok0
def f53_d (n1 : Int) (s2 : ByteArray) (n3 n4 : Int) (n5 n6 : Int) (n7 n8 : Int) (n9 n10 : Int) (n11 n12 n13 : Int) (s14 : ByteArray) (n15 : Int) (es16 : LL) (full17 : Bool) (k0 : Bool→Prop) : Prop:=k0 (decide ((es16.length : Int) > 32))
structure f53 (n1 : Int) (s2 : ByteArray) (n3 n4 : Int) (n5 n6 : Int) (n7 n8 : Int) (n9 n10 : Int) (n11 n12 n13 : Int) (s14 : ByteArray) (n15 : Int) (es16 : LL) (full17 : Bool) (k0 : Bool→Prop) : Prop where
  run : f53_d n1 s2 n3 n4 n5 n6 n7 n8 n9 n10 n11 n12 n13 s14 n15 es16 full17 k0
def f53_tab : List (Nat×Told):=[]
def f53_call : FuncId→List TV→List Entry→(TV→List Entry→Prop)→Prop:=noCalls
def f53_C : Ctx:=mkC [] [] [] [] [] false 0 true (lookL f53_tab) f53_call
def f53_G0 : List TV→List Entry→(TV→List Entry→Prop)→Prop:=fun tm hp K=>getS [.v (.one (.int .i64)),.v (.pagg [.str,.int .i64,.int .i64,.int .i64,.int .i64,.int .i64,.int .i64,.int .i64,.int .i64,.int .i64,.int .i64,.int .i64,.str,.int .i64,.sl 3])] [] tm hp fun (xx : (Int×((ByteArray×(Int×(Int×(Int×(Int×(Int×(Int×(Int×(Int×(Int×(Int×(Int×(ByteArray×(Int×((LL×Bool)×Unit)))))))))))))))×Unit))) (yy : Unit)=>f53 xx.1 xx.2.1.1 xx.2.1.2.1 xx.2.1.2.2.1 xx.2.1.2.2.2.1 xx.2.1.2.2.2.2.1 xx.2.1.2.2.2.2.2.1 xx.2.1.2.2.2.2.2.2.1 xx.2.1.2.2.2.2.2.2.2.1 xx.2.1.2.2.2.2.2.2.2.2.1 xx.2.1.2.2.2.2.2.2.2.2.2.1 xx.2.1.2.2.2.2.2.2.2.2.2.2.1 xx.2.1.2.2.2.2.2.2.2.2.2.2.2.1 xx.2.1.2.2.2.2.2.2.2.2.2.2.2.2.1 xx.2.1.2.2.2.2.2.2.2.2.2.2.2.2.2.1 xx.2.1.2.2.2.2.2.2.2.2.2.2.2.2.2.2.1.1 xx.2.1.2.2.2.2.2.2.2.2.2.2.2.2.2.2.1.2 (fun b0_0=>K (B b0_0) [])
theorem f53_eq (n_1 : Int) (s_2 : ByteArray) (n_3 n_4 : Int) (n_5 n_6 : Int) (n_7 n_8 : Int) (n_9 n_10 : Int) (n_11 n_12 n_13 : Int) (s_14 : ByteArray) (n_15 : Int) (es_16 : LL) (full_17 : Bool) (K : TV→List Entry→Prop) : (f53_d n_1 s_2 n_3 n_4 n_5 n_6 n_7 n_8 n_9 n_10 n_11 n_12 n_13 s_14 n_15 es_16 full_17 (fun b0_0=>K (B b0_0) [])) = funcT f53_C Tryd.f53 [I n_1,.w (.pagg [pS s_2,pI n_3,pI n_4,pI n_5,pI n_6,pI n_7,pI n_8,pI n_9,pI n_10,pI n_11,pI n_12,pI n_13,pS s_14,pI n_15,.sl 3 es_16 full_17])] [] K:=by kernel_rfl
set_option maxHeartbeats 4000000 in
theorem f53_ok0 : FnOk Tryd.prog glob 53 f53_G0:=by
  refine FnOk.of_text (C:=f53_C) tab_ok.ok (Known.none) follows_ok (fn:=Tryd.f53) (by kernel_rfl) (by kernel_rfl) (by kernel_rfl) (fun c hc=>?_) fun tm hp K h=>?_
  · have e : c = bodyOf Tryd.f53:=Option.some.inj (hc.symm.trans (by kernel_rfl))
    subst e
    exact ⟨LoopsOk.of [] (by kernel_rfl) trivial,TailsOk.of (tab:=f53_tab) rfl [] (by kernel_rfl) trivial⟩
  · unfold f53_G0 at h
    obtain ⟨xx,yy,rfl,rfl,h⟩:=getS_elim h
    have e:=(f53_eq xx.1 xx.2.1.1 xx.2.1.2.1 xx.2.1.2.2.1 xx.2.1.2.2.2.1 xx.2.1.2.2.2.2.1 xx.2.1.2.2.2.2.2.1 xx.2.1.2.2.2.2.2.2.1 xx.2.1.2.2.2.2.2.2.2.1 xx.2.1.2.2.2.2.2.2.2.2.1 xx.2.1.2.2.2.2.2.2.2.2.2.1 xx.2.1.2.2.2.2.2.2.2.2.2.2.1 xx.2.1.2.2.2.2.2.2.2.2.2.2.2.1 xx.2.1.2.2.2.2.2.2.2.2.2.2.2.2.1 xx.2.1.2.2.2.2.2.2.2.2.2.2.2.2.2.1 xx.2.1.2.2.2.2.2.2.2.2.2.2.2.2.2.2.1.1 xx.2.1.2.2.2.2.2.2.2.2.2.2.2.2.2.2.1.2 K).trans (show _ = funcT f53_C Tryd.f53 (mkR _ xx) (mkE _ yy) K by kernel_rfl)
    rw [← e]
    exact h.run
abbrev f53_G:=f53_G0
theorem f53_G_ok : FnOk Tryd.prog glob 53 f53_G:=f53_ok0
def f52_p4b0 (n4 : Int) (es5 : LL) (full6 : Bool) (n7 n8 : Int) (N0 : Int→Prop) (k0 : Unit→Prop) (k1 : Unit→Prop) : Prop:=bB (decide (n8 < n7)) ((0≤n8∧n8 < (es5.length : Int))∧cS (ext (List.getD es5 (Int.toNat n8) []) 0 15) fun s10 r9=>cI .i64 r9 fun n12 r11=>cI .i64 r11 fun n14 r13=>cI .i64 r13 fun n16 r15=>cI .i64 r15 fun n18 r17=>cI .i64 r17 fun n20 r19=>cI .i64 r19 fun n22 r21=>cI .i64 r21 fun n24 r23=>cI .i64 r23 fun n26 r25=>cI .i64 r25 fun n28 r27=>cI .i64 r27 fun n30 r29=>cI .i64 r29 fun n32 r31=>cS r31 fun s34 r33=>cI .i64 r33 fun n36 r35=>cL 3 r35 fun es38 full39 r37=>nilC r37 <| f53 n8 s10 n12 n14 n16 n18 n20 n22 n24 n26 n28 n30 n32 s34 n36 es38 full39 (fun b40=>bB b40 (k0 ()) (N0 (w64 (n8 + 1))))) (k1 ())
def f52_p4 (n4 : Int) (es5 : LL) (full6 : Bool) (n7 : Int) (k0 : Unit→Prop) (k1 : Unit→Prop) : Int→Prop:=LoopP fun x N=>f52_p4b0 n4 es5 full6 n7 x (fun n8=>N n8) k0 k1
def f52_d (es1 : LL) (full2 : Bool) (n3 : Int) (k0 : Int→Prop) : Prop:=f52_p4 n3 es1 full2 (es1.length : Int) (fun (_ : Unit)=>k0 n3) (fun (_ : Unit)=>k0 0) 0
structure f52 (es1 : LL) (full2 : Bool) (n3 : Int) (k0 : Int→Prop) : Prop where
  run : f52_d es1 full2 n3 k0
def f52_p4L : Told:=fun s K=>match s with
  | ⟨tm,hp⟩=>getS [.skip 1,.v (.one (.int .i64)),.v (.one (.fn 53)),.skip 6,.v (.one (.sl 15)),.v (.one (.int .i64)),.v (.one (.int .i64)),.skip 10] [] tm hp fun (xx : (Unit×(Int×(Unit×(Unit×((LL×Bool)×(Int×(Int×(Unit×Unit))))))))) (yy : Unit)=>f52_p4 xx.2.1 xx.2.2.2.2.1.1 xx.2.2.2.2.1.2 xx.2.2.2.2.2.1 (fun (_ : Unit)=>K .ret ⟨mkS 22 [(6,I xx.2.1)],[]⟩) (fun (_ : Unit)=>K (.exit 0) ⟨mkS 22 [],[]⟩) xx.2.2.2.2.2.2.1
def f52_tab : List (Nat×Told):=[(4,f52_p4L)]
def f52_call : FuncId→List TV→List Entry→(TV→List Entry→Prop)→Prop:=addCall 53 f53_G (noCalls)
def f52_C : Ctx:=mkC [(4,[(0,[1,2,9,10,11]),(2,[6]),(3,[])])] [] [] [] [] false 0 true (lookL f52_tab) f52_call
def f52_p4_mk (n4 : Int) (es5 : LL) (full6 : Bool) (n7 x : Int) : St:=⟨mkS 22 [(1,I n4),(2,.w (.one (.p (.c (.func (.func 53) #[] #[]))))),(9,.w (.one (.p (.sl 15 es5 full6)))),(10,I n7),(11,I x)],[]⟩
theorem f52_p4e0 (n_6 : Int) (es_7 : LL) (full_8 : Bool) (n_9 n_10 : Int) (N : St→Prop) (K : TExit→St→Prop) : (f52_p4b0 n_6 es_7 full_8 n_9 n_10 (fun z4=>N (f52_p4_mk n_6 es_7 full_8 n_9 z4)) (fun (_ : Unit)=>K .ret ⟨mkS 22 [(6,I n_6)],[]⟩) (fun (_ : Unit)=>K (.exit 0) ⟨mkS 22 [],[]⟩)) = execT f52_C (bd Tryd.f52 0) (f52_p4_mk n_6 es_7 full_8 n_9 n_10) (loopK N (normK f52_C 4) fun e s=>K e (normOut f52_C 4 e s)):=by kernel_rfl
set_option maxHeartbeats 4000000 in
theorem f52_p4_ok : LoopOk f52_C (bd Tryd.f52 0):=by
  refine LoopOk.of f52_p4L (by kernel_rfl) fun σ K h=>?_
  have hk : loopKey (bd Tryd.f52 0) = 4:=by kernel_rfl
  rw [hk] at h ⊢
  generalize hs : normK f52_C 4 σ = s at h
  obtain ⟨tm,hp⟩:=s
  unfold f52_p4L at h
  dsimp only at h
  obtain ⟨xx,yy,rfl,rfl,h⟩:=getS_elim h
  refine iter_of (f52_p4_mk xx.2.1 xx.2.2.2.2.1.1 xx.2.2.2.2.1.2 xx.2.2.2.2.2.1) (fun x N h=>?_) rounds _ σ (hs.trans (by kernel_rfl)) (LoopP.run h)
  rw [← f52_p4e0 xx.2.1 xx.2.2.2.2.1.1 xx.2.2.2.2.1.2 xx.2.2.2.2.2.1 x N K]
  exact h
def f52_G0 : List TV→List Entry→(TV→List Entry→Prop)→Prop:=fun tm hp K=>getS [.v (.one (.sl 15)),.v (.one (.int .i64)),.v (.one (.fn 53))] [] tm hp fun (xx : ((LL×Bool)×(Int×(Unit×Unit)))) (yy : Unit)=>f52 xx.1.1 xx.1.2 xx.2.1 (fun n0_0=>K (I n0_0) [])
theorem f52_eq (es_11 : LL) (full_12 : Bool) (n_13 : Int) (K : TV→List Entry→Prop) : (f52_d es_11 full_12 n_13 (fun n0_0=>K (I n0_0) [])) = funcT f52_C Tryd.f52 [.w (.one (.p (.sl 15 es_11 full_12))),I n_13,.w (.one (.p (.c (.func (.func 53) #[] #[]))))] [] K:=by kernel_rfl
set_option maxHeartbeats 4000000 in
theorem f52_ok0 : FnOk Tryd.prog glob 52 f52_G0:=by
  refine FnOk.of_text (C:=f52_C) tab_ok.ok (Known.add f53_G_ok (Known.none)) follows_ok (fn:=Tryd.f52) (by kernel_rfl) (by kernel_rfl) (by kernel_rfl) (fun c hc=>?_) fun tm hp K h=>?_
  · have e : c = bodyOf Tryd.f52:=Option.some.inj (hc.symm.trans (by kernel_rfl))
    subst e
    exact ⟨LoopsOk.of [bd Tryd.f52 0] (by kernel_rfl) ⟨f52_p4_ok,trivial⟩,TailsOk.of (tab:=f52_tab) rfl [] (by kernel_rfl) trivial⟩
  · unfold f52_G0 at h
    obtain ⟨xx,yy,rfl,rfl,h⟩:=getS_elim h
    have e:=(f52_eq xx.1.1 xx.1.2 xx.2.1 K).trans (show _ = funcT f52_C Tryd.f52 (mkR _ xx) (mkE _ yy) K by kernel_rfl)
    rw [← e]
    exact h.run
abbrev f52_G:=f52_G0
theorem f52_G_ok : FnOk Tryd.prog glob 52 f52_G:=f52_ok0
def f29_d (n1 : Int) (k0 : Bool→Prop) : Prop:=bB (decide (n1≥48)) (k0 (decide (n1≤57))) (k0 false)
structure f29 (n1 : Int) (k0 : Bool→Prop) : Prop where
  run : f29_d n1 k0
def f29_tab : List (Nat×Told):=[]
def f29_call : FuncId→List TV→List Entry→(TV→List Entry→Prop)→Prop:=noCalls
def f29_C : Ctx:=mkC [] [] [] [] [] false 0 true (lookL f29_tab) f29_call
def f29_G0 : List TV→List Entry→(TV→List Entry→Prop)→Prop:=fun tm hp K=>getS [.v (.one (.int .u8))] [] tm hp fun (xx : (Int×Unit)) (yy : Unit)=>f29 xx.1 (fun b0_0=>K (B b0_0) [])
theorem f29_eq (n_1 : Int) (K : TV→List Entry→Prop) : (f29_d n_1 (fun b0_0=>K (B b0_0) [])) = funcT f29_C Tryd.f29 [.w (.one (.p (.c (.int .u8 n_1))))] [] K:=by kernel_rfl
set_option maxHeartbeats 4000000 in
theorem f29_ok0 : FnOk Tryd.prog glob 29 f29_G0:=by
  refine FnOk.of_text (C:=f29_C) tab_ok.ok (Known.none) follows_ok (fn:=Tryd.f29) (by kernel_rfl) (by kernel_rfl) (by kernel_rfl) (fun c hc=>?_) fun tm hp K h=>?_
  · have e : c = bodyOf Tryd.f29:=Option.some.inj (hc.symm.trans (by kernel_rfl))
    subst e
    exact ⟨LoopsOk.of [] (by kernel_rfl) trivial,TailsOk.of (tab:=f29_tab) rfl [] (by kernel_rfl) trivial⟩
  · unfold f29_G0 at h
    obtain ⟨xx,yy,rfl,rfl,h⟩:=getS_elim h
    have e:=(f29_eq xx.1 K).trans (show _ = funcT f29_C Tryd.f29 (mkR _ xx) (mkE _ yy) K by kernel_rfl)
    rw [← e]
    exact h.run
abbrev f29_G:=f29_G0
theorem f29_G_ok : FnOk Tryd.prog glob 29 f29_G:=f29_ok0
def f28_d (n1 : Int) (s2 : ByteArray) (k0 : Bool→ByteArray→Prop) : Prop:=(0≤n1∧n1 < (s2.size : Int))∧bB (decide ((byteAt s2 n1)≥97)) ((0≤n1∧n1 < (s2.size : Int))∧bB (decide ((byteAt s2 n1)≤122)) (k0 true s2) ((0≤n1∧n1 < (s2.size : Int))∧f29 (byteAt s2 n1) (fun b3=>bB b3 (k0 true s2) ((0≤n1∧n1 < (s2.size : Int))∧k0 ((byteAt s2 n1) == 95) s2)))) ((0≤n1∧n1 < (s2.size : Int))∧f29 (byteAt s2 n1) (fun b4=>bB b4 (k0 true s2) ((0≤n1∧n1 < (s2.size : Int))∧k0 ((byteAt s2 n1) == 95) s2)))
structure f28 (n1 : Int) (s2 : ByteArray) (k0 : Bool→ByteArray→Prop) : Prop where
  run : f28_d n1 s2 k0
def f28_tab : List (Nat×Told):=[]
def f28_call : FuncId→List TV→List Entry→(TV→List Entry→Prop)→Prop:=addCall 29 f29_G (noCalls)
def f28_C : Ctx:=mkC [] [] [] [] [] false 1 true (lookL f28_tab) f28_call
def f28_G0 : List TV→List Entry→(TV→List Entry→Prop)→Prop:=fun tm hp K=>getS [.v (.one (.int .i64)),.v (.one (.ptr 0 0 0))] [.box [.str]] tm hp fun (xx : (Int×(Unit×Unit))) (yy : ((ByteArray×Unit)×Unit))=>f28 xx.1 yy.1.1 (fun b0_0 s0_1=>K (B b0_0) [.box [.p (pS s0_1)]])
theorem f28_eq (n_2 : Int) (s_3 : ByteArray) (K : TV→List Entry→Prop) : (f28_d n_2 s_3 (fun b0_0 s0_1=>K (B b0_0) [.box [.p (pS s0_1)]])) = funcT f28_C Tryd.f28 [I n_2,.w (.one (.ptr 0 0 0))] [.box [.p (pS s_3)]] K:=by kernel_rfl
set_option maxHeartbeats 4000000 in
theorem f28_ok0 : FnOk Tryd.prog glob 28 f28_G0:=by
  refine FnOk.of_text (C:=f28_C) tab_ok.ok (Known.add f29_G_ok (Known.none)) follows_ok (fn:=Tryd.f28) (by kernel_rfl) (by kernel_rfl) (by kernel_rfl) (fun c hc=>?_) fun tm hp K h=>?_
  · have e : c = bodyOf Tryd.f28:=Option.some.inj (hc.symm.trans (by kernel_rfl))
    subst e
    exact ⟨LoopsOk.of [] (by kernel_rfl) trivial,TailsOk.of (tab:=f28_tab) rfl [] (by kernel_rfl) trivial⟩
  · unfold f28_G0 at h
    obtain ⟨xx,yy,rfl,rfl,h⟩:=getS_elim h
    have e:=(f28_eq xx.1 yy.1.1 K).trans (show _ = funcT f28_C Tryd.f28 (mkR _ xx) (mkE _ yy) K by kernel_rfl)
    rw [← e]
    exact h.run
abbrev f28_G:=f28_G0
theorem f28_G_ok : FnOk Tryd.prog glob 28 f28_G:=f28_ok0
def f27_p2b0 (s4 : ByteArray) (n5 : Int) (s6 : ByteArray) (N0 : Int→ByteArray→Prop) (k0 : Int→ByteArray→Prop) : Prop:=bB (decide (n5 < (s4.size : Int))) (f28 n5 s6 (fun b7 s8=>bB b7 (N0 (w64 (n5 + 1)) s8) (k0 n5 s8))) (k0 n5 s6)
def f27_p2 (s4 : ByteArray) (k0 : Int→ByteArray→Prop) : Int×ByteArray→Prop:=LoopP fun x N=>f27_p2b0 s4 x.1 x.2 (fun n5 s6=>N (n5,s6)) k0
def f27_d (s1 : ByteArray) (n2 : Int) (s3 : ByteArray) (k0 : Int→ByteArray→Prop) : Prop:=f27_p2 s1 (fun n9 s10=>k0 n9 s10) (n2,s3)
structure f27 (s1 : ByteArray) (n2 : Int) (s3 : ByteArray) (k0 : Int→ByteArray→Prop) : Prop where
  run : f27_d s1 n2 s3 k0
def f27_p2L : Told:=fun s K=>match s with
  | ⟨tm,hp⟩=>getS [.v (.one (.str)),.v (.one (.int .i64)),.v (.clo 28 [] [.ptr 0 0 0]),.skip 16] [.box [.str]] tm hp fun (xx : (ByteArray×(Int×((Unit×(Unit×Unit))×(Unit×Unit))))) (yy : ((ByteArray×Unit)×Unit))=>f27_p2 xx.1 (fun n0_0 s0_1=>K (.exit 0) ⟨mkS 19 [(1,I n0_0)],[.box [.p (pS s0_1)]]⟩) (xx.2.1,yy.1.1)
def f27_tab : List (Nat×Told):=[(2,f27_p2L)]
def f27_call : FuncId→List TV→List Entry→(TV→List Entry→Prop)→Prop:=addCall 28 f28_G (noCalls)
def f27_C : Ctx:=mkC [(2,[(0,[0,1,2]),(2,[6]),(3,[1])])] [] [] [] [] false 1 true (lookL f27_tab) f27_call
def f27_p2_mk (s4 : ByteArray) (x : Int×ByteArray) : St:=⟨mkS 19 [(0,S s4),(1,I x.1),(2,.w (.one (.clo 28 [] [.ptr 0 0 0])))],[.box [.p (pS x.2)]]⟩
theorem f27_p2e0 (s_7 : ByteArray) (n_8 : Int) (s_9 : ByteArray) (N : St→Prop) (K : TExit→St→Prop) : (f27_p2b0 s_7 n_8 s_9 (fun z1 z2=>N (f27_p2_mk s_7 (z1,z2))) (fun n0_10 s0_11=>K (.exit 0) ⟨mkS 19 [(1,I n0_10)],[.box [.p (pS s0_11)]]⟩)) = execT f27_C (bd Tryd.f27 0) (f27_p2_mk s_7 (n_8,s_9)) (loopK N (normK f27_C 2) fun e s=>K e (normOut f27_C 2 e s)):=by kernel_rfl
set_option maxHeartbeats 4000000 in
theorem f27_p2_ok : LoopOk f27_C (bd Tryd.f27 0):=by
  refine LoopOk.of f27_p2L (by kernel_rfl) fun σ K h=>?_
  have hk : loopKey (bd Tryd.f27 0) = 2:=by kernel_rfl
  rw [hk] at h ⊢
  generalize hs : normK f27_C 2 σ = s at h
  obtain ⟨tm,hp⟩:=s
  unfold f27_p2L at h
  dsimp only at h
  obtain ⟨xx,yy,rfl,rfl,h⟩:=getS_elim h
  refine iter_of (f27_p2_mk xx.1) (fun x N h=>?_) rounds _ σ (hs.trans (by kernel_rfl)) (LoopP.run h)
  obtain ⟨y0,y1⟩:=x
  rw [← f27_p2e0 xx.1 y0 y1 N K]
  exact h
def f27_G0 : List TV→List Entry→(TV→List Entry→Prop)→Prop:=fun tm hp K=>getS [.v (.one (.str)),.v (.one (.int .i64)),.v (.clo 28 [] [.ptr 0 0 0])] [.box [.str]] tm hp fun (xx : (ByteArray×(Int×((Unit×(Unit×Unit))×Unit)))) (yy : ((ByteArray×Unit)×Unit))=>f27 xx.1 xx.2.1 yy.1.1 (fun n0_2 s0_3=>K (I n0_2) [.box [.p (pS s0_3)]])
theorem f27_eq (s_12 : ByteArray) (n_13 : Int) (s_14 : ByteArray) (K : TV→List Entry→Prop) : (f27_d s_12 n_13 s_14 (fun n0_2 s0_3=>K (I n0_2) [.box [.p (pS s0_3)]])) = funcT f27_C Tryd.f27 [S s_12,I n_13,.w (.one (.clo 28 [] [.ptr 0 0 0]))] [.box [.p (pS s_14)]] K:=by kernel_rfl
set_option maxHeartbeats 4000000 in
theorem f27_ok0 : FnOk Tryd.prog glob 27 f27_G0:=by
  refine FnOk.of_text (C:=f27_C) tab_ok.ok (Known.add f28_G_ok (Known.none)) follows_ok (fn:=Tryd.f27) (by kernel_rfl) (by kernel_rfl) (by kernel_rfl) (fun c hc=>?_) fun tm hp K h=>?_
  · have e : c = bodyOf Tryd.f27:=Option.some.inj (hc.symm.trans (by kernel_rfl))
    subst e
    exact ⟨LoopsOk.of [bd Tryd.f27 0] (by kernel_rfl) ⟨f27_p2_ok,trivial⟩,TailsOk.of (tab:=f27_tab) rfl [] (by kernel_rfl) trivial⟩
  · unfold f27_G0 at h
    obtain ⟨xx,yy,rfl,rfl,h⟩:=getS_elim h
    have e:=(f27_eq xx.1 xx.2.1 yy.1.1 K).trans (show _ = funcT f27_C Tryd.f27 (mkR _ xx) (mkE _ yy) K by kernel_rfl)
    rw [← e]
    exact h.run
abbrev f27_G:=f27_G0
theorem f27_G_ok : FnOk Tryd.prog glob 27 f27_G:=f27_ok0
def f15_d (s1 : ByteArray) (k0 : Bool→Prop) : Prop:=bB (decide ((s1.size : Int) < 1)) (k0 false) (bB (decide ((s1.size : Int) > 24)) (k0 false) ((0≤(0 : Int)∧(0 : Int) < (s1.size : Int))∧bB (decide ((byteAt s1 0) < 97)) (k0 false) ((0≤(0 : Int)∧(0 : Int) < (s1.size : Int))∧bB (decide ((byteAt s1 0) > 122)) (k0 false) ((f27 s1 0 s1 (fun n2 s3=>k0 (n2 == (s3.size : Int))))∧(f27 s1 0 s1 (fun n4 s5=>k0 (n4 == (s1.size : Int))))))))
structure f15 (s1 : ByteArray) (k0 : Bool→Prop) : Prop where
  run : f15_d s1 k0
def f15_tab : List (Nat×Told):=[]
def f15_call : FuncId→List TV→List Entry→(TV→List Entry→Prop)→Prop:=addCall 27 f27_G (noCalls)
def f15_C : Ctx:=mkC [] [(3,[3])] [] [] [] false 0 true (lookL f15_tab) f15_call
def f15_G0 : List TV→List Entry→(TV→List Entry→Prop)→Prop:=fun tm hp K=>getS [.v (.one (.str))] [] tm hp fun (xx : (ByteArray×Unit)) (yy : Unit)=>f15 xx.1 (fun b0_0=>K (B b0_0) [])
theorem f15_eq (s_1 : ByteArray) (K : TV→List Entry→Prop) : (f15_d s_1 (fun b0_0=>K (B b0_0) [])) = funcT f15_C Tryd.f15 [S s_1] [] K:=by kernel_rfl
set_option maxHeartbeats 4000000 in
theorem f15_ok0 : FnOk Tryd.prog glob 15 f15_G0:=by
  refine FnOk.of_text (C:=f15_C) tab_ok.ok (Known.add f27_G_ok (Known.none)) follows_ok (fn:=Tryd.f15) (by kernel_rfl) (by kernel_rfl) (by kernel_rfl) (fun c hc=>?_) fun tm hp K h=>?_
  · have e : c = bodyOf Tryd.f15:=Option.some.inj (hc.symm.trans (by kernel_rfl))
    subst e
    exact ⟨LoopsOk.of [] (by kernel_rfl) trivial,TailsOk.of (tab:=f15_tab) rfl [] (by kernel_rfl) trivial⟩
  · unfold f15_G0 at h
    obtain ⟨xx,yy,rfl,rfl,h⟩:=getS_elim h
    have e:=(f15_eq xx.1 K).trans (show _ = funcT f15_C Tryd.f15 (mkR _ xx) (mkE _ yy) K by kernel_rfl)
    rw [← e]
    exact h.run
abbrev f15_G:=f15_G0
theorem f15_G_ok : FnOk Tryd.prog glob 15 f15_G:=f15_ok0
def f54_d (n1 : Int) (s2 : ByteArray) (n3 n4 : Int) (n5 n6 : Int) (n7 n8 : Int) (n9 n10 : Int) (n11 n12 n13 : Int) (s14 : ByteArray) (n15 : Int) (es16 : LL) (full17 : Bool) (k0 : Bool→Prop) : Prop:=f15 s2 (fun b18=>k0 (!b18))
structure f54 (n1 : Int) (s2 : ByteArray) (n3 n4 : Int) (n5 n6 : Int) (n7 n8 : Int) (n9 n10 : Int) (n11 n12 n13 : Int) (s14 : ByteArray) (n15 : Int) (es16 : LL) (full17 : Bool) (k0 : Bool→Prop) : Prop where
  run : f54_d n1 s2 n3 n4 n5 n6 n7 n8 n9 n10 n11 n12 n13 s14 n15 es16 full17 k0
def f54_tab : List (Nat×Told):=[]
def f54_call : FuncId→List TV→List Entry→(TV→List Entry→Prop)→Prop:=addCall 15 f15_G (noCalls)
def f54_C : Ctx:=mkC [] [] [] [] [] false 0 true (lookL f54_tab) f54_call
def f54_G0 : List TV→List Entry→(TV→List Entry→Prop)→Prop:=fun tm hp K=>getS [.v (.one (.int .i64)),.v (.pagg [.str,.int .i64,.int .i64,.int .i64,.int .i64,.int .i64,.int .i64,.int .i64,.int .i64,.int .i64,.int .i64,.int .i64,.str,.int .i64,.sl 3])] [] tm hp fun (xx : (Int×((ByteArray×(Int×(Int×(Int×(Int×(Int×(Int×(Int×(Int×(Int×(Int×(Int×(ByteArray×(Int×((LL×Bool)×Unit)))))))))))))))×Unit))) (yy : Unit)=>f54 xx.1 xx.2.1.1 xx.2.1.2.1 xx.2.1.2.2.1 xx.2.1.2.2.2.1 xx.2.1.2.2.2.2.1 xx.2.1.2.2.2.2.2.1 xx.2.1.2.2.2.2.2.2.1 xx.2.1.2.2.2.2.2.2.2.1 xx.2.1.2.2.2.2.2.2.2.2.1 xx.2.1.2.2.2.2.2.2.2.2.2.1 xx.2.1.2.2.2.2.2.2.2.2.2.2.1 xx.2.1.2.2.2.2.2.2.2.2.2.2.2.1 xx.2.1.2.2.2.2.2.2.2.2.2.2.2.2.1 xx.2.1.2.2.2.2.2.2.2.2.2.2.2.2.2.1 xx.2.1.2.2.2.2.2.2.2.2.2.2.2.2.2.2.1.1 xx.2.1.2.2.2.2.2.2.2.2.2.2.2.2.2.2.1.2 (fun b0_0=>K (B b0_0) [])
theorem f54_eq (n_1 : Int) (s_2 : ByteArray) (n_3 n_4 : Int) (n_5 n_6 : Int) (n_7 n_8 : Int) (n_9 n_10 : Int) (n_11 n_12 n_13 : Int) (s_14 : ByteArray) (n_15 : Int) (es_16 : LL) (full_17 : Bool) (K : TV→List Entry→Prop) : (f54_d n_1 s_2 n_3 n_4 n_5 n_6 n_7 n_8 n_9 n_10 n_11 n_12 n_13 s_14 n_15 es_16 full_17 (fun b0_0=>K (B b0_0) [])) = funcT f54_C Tryd.f54 [I n_1,.w (.pagg [pS s_2,pI n_3,pI n_4,pI n_5,pI n_6,pI n_7,pI n_8,pI n_9,pI n_10,pI n_11,pI n_12,pI n_13,pS s_14,pI n_15,.sl 3 es_16 full_17])] [] K:=by kernel_rfl
set_option maxHeartbeats 4000000 in
theorem f54_ok0 : FnOk Tryd.prog glob 54 f54_G0:=by
  refine FnOk.of_text (C:=f54_C) tab_ok.ok (Known.add f15_G_ok (Known.none)) follows_ok (fn:=Tryd.f54) (by kernel_rfl) (by kernel_rfl) (by kernel_rfl) (fun c hc=>?_) fun tm hp K h=>?_
  · have e : c = bodyOf Tryd.f54:=Option.some.inj (hc.symm.trans (by kernel_rfl))
    subst e
    exact ⟨LoopsOk.of [] (by kernel_rfl) trivial,TailsOk.of (tab:=f54_tab) rfl [] (by kernel_rfl) trivial⟩
  · unfold f54_G0 at h
    obtain ⟨xx,yy,rfl,rfl,h⟩:=getS_elim h
    have e:=(f54_eq xx.1 xx.2.1.1 xx.2.1.2.1 xx.2.1.2.2.1 xx.2.1.2.2.2.1 xx.2.1.2.2.2.2.1 xx.2.1.2.2.2.2.2.1 xx.2.1.2.2.2.2.2.2.1 xx.2.1.2.2.2.2.2.2.2.1 xx.2.1.2.2.2.2.2.2.2.2.1 xx.2.1.2.2.2.2.2.2.2.2.2.1 xx.2.1.2.2.2.2.2.2.2.2.2.2.1 xx.2.1.2.2.2.2.2.2.2.2.2.2.2.1 xx.2.1.2.2.2.2.2.2.2.2.2.2.2.2.1 xx.2.1.2.2.2.2.2.2.2.2.2.2.2.2.2.1 xx.2.1.2.2.2.2.2.2.2.2.2.2.2.2.2.2.1.1 xx.2.1.2.2.2.2.2.2.2.2.2.2.2.2.2.2.1.2 K).trans (show _ = funcT f54_C Tryd.f54 (mkR _ xx) (mkE _ yy) K by kernel_rfl)
    rw [← e]
    exact h.run
abbrev f54_G:=f54_G0
theorem f54_G_ok : FnOk Tryd.prog glob 54 f54_G:=f54_ok0
def f52_1_p4b0 (n4 : Int) (es5 : LL) (full6 : Bool) (n7 n8 : Int) (N0 : Int→Prop) (k0 : Unit→Prop) (k1 : Unit→Prop) : Prop:=bB (decide (n8 < n7)) ((0≤n8∧n8 < (es5.length : Int))∧cS (ext (List.getD es5 (Int.toNat n8) []) 0 15) fun s10 r9=>cI .i64 r9 fun n12 r11=>cI .i64 r11 fun n14 r13=>cI .i64 r13 fun n16 r15=>cI .i64 r15 fun n18 r17=>cI .i64 r17 fun n20 r19=>cI .i64 r19 fun n22 r21=>cI .i64 r21 fun n24 r23=>cI .i64 r23 fun n26 r25=>cI .i64 r25 fun n28 r27=>cI .i64 r27 fun n30 r29=>cI .i64 r29 fun n32 r31=>cS r31 fun s34 r33=>cI .i64 r33 fun n36 r35=>cL 3 r35 fun es38 full39 r37=>nilC r37 <| f54 n8 s10 n12 n14 n16 n18 n20 n22 n24 n26 n28 n30 n32 s34 n36 es38 full39 (fun b40=>bB b40 (k0 ()) (N0 (w64 (n8 + 1))))) (k1 ())
def f52_1_p4 (n4 : Int) (es5 : LL) (full6 : Bool) (n7 : Int) (k0 : Unit→Prop) (k1 : Unit→Prop) : Int→Prop:=LoopP fun x N=>f52_1_p4b0 n4 es5 full6 n7 x (fun n8=>N n8) k0 k1
def f52_1_d (es1 : LL) (full2 : Bool) (n3 : Int) (k0 : Int→Prop) : Prop:=f52_1_p4 n3 es1 full2 (es1.length : Int) (fun (_ : Unit)=>k0 n3) (fun (_ : Unit)=>k0 0) 0
structure f52_1 (es1 : LL) (full2 : Bool) (n3 : Int) (k0 : Int→Prop) : Prop where
  run : f52_1_d es1 full2 n3 k0
def f52_1_p4L : Told:=fun s K=>match s with
  | ⟨tm,hp⟩=>getS [.skip 1,.v (.one (.int .i64)),.v (.one (.fn 54)),.skip 6,.v (.one (.sl 15)),.v (.one (.int .i64)),.v (.one (.int .i64)),.skip 10] [] tm hp fun (xx : (Unit×(Int×(Unit×(Unit×((LL×Bool)×(Int×(Int×(Unit×Unit))))))))) (yy : Unit)=>f52_1_p4 xx.2.1 xx.2.2.2.2.1.1 xx.2.2.2.2.1.2 xx.2.2.2.2.2.1 (fun (_ : Unit)=>K .ret ⟨mkS 22 [(6,I xx.2.1)],[]⟩) (fun (_ : Unit)=>K (.exit 0) ⟨mkS 22 [],[]⟩) xx.2.2.2.2.2.2.1
def f52_1_tab : List (Nat×Told):=[(4,f52_1_p4L)]
def f52_1_call : FuncId→List TV→List Entry→(TV→List Entry→Prop)→Prop:=addCall 54 f54_G (noCalls)
def f52_1_C : Ctx:=mkC [(4,[(0,[1,2,9,10,11]),(2,[6]),(3,[])])] [] [] [] [] false 0 true (lookL f52_1_tab) f52_1_call
def f52_1_p4_mk (n4 : Int) (es5 : LL) (full6 : Bool) (n7 x : Int) : St:=⟨mkS 22 [(1,I n4),(2,.w (.one (.p (.c (.func (.func 54) #[] #[]))))),(9,.w (.one (.p (.sl 15 es5 full6)))),(10,I n7),(11,I x)],[]⟩
theorem f52_1_p4e0 (n_6 : Int) (es_7 : LL) (full_8 : Bool) (n_9 n_10 : Int) (N : St→Prop) (K : TExit→St→Prop) : (f52_1_p4b0 n_6 es_7 full_8 n_9 n_10 (fun z4=>N (f52_1_p4_mk n_6 es_7 full_8 n_9 z4)) (fun (_ : Unit)=>K .ret ⟨mkS 22 [(6,I n_6)],[]⟩) (fun (_ : Unit)=>K (.exit 0) ⟨mkS 22 [],[]⟩)) = execT f52_1_C (bd Tryd.f52 0) (f52_1_p4_mk n_6 es_7 full_8 n_9 n_10) (loopK N (normK f52_1_C 4) fun e s=>K e (normOut f52_1_C 4 e s)):=by kernel_rfl
set_option maxHeartbeats 4000000 in
theorem f52_1_p4_ok : LoopOk f52_1_C (bd Tryd.f52 0):=by
  refine LoopOk.of f52_1_p4L (by kernel_rfl) fun σ K h=>?_
  have hk : loopKey (bd Tryd.f52 0) = 4:=by kernel_rfl
  rw [hk] at h ⊢
  generalize hs : normK f52_1_C 4 σ = s at h
  obtain ⟨tm,hp⟩:=s
  unfold f52_1_p4L at h
  dsimp only at h
  obtain ⟨xx,yy,rfl,rfl,h⟩:=getS_elim h
  refine iter_of (f52_1_p4_mk xx.2.1 xx.2.2.2.2.1.1 xx.2.2.2.2.1.2 xx.2.2.2.2.2.1) (fun x N h=>?_) rounds _ σ (hs.trans (by kernel_rfl)) (LoopP.run h)
  rw [← f52_1_p4e0 xx.2.1 xx.2.2.2.2.1.1 xx.2.2.2.2.1.2 xx.2.2.2.2.2.1 x N K]
  exact h
def f52_1_G0 : List TV→List Entry→(TV→List Entry→Prop)→Prop:=fun tm hp K=>getS [.v (.one (.sl 15)),.v (.one (.int .i64)),.v (.one (.fn 54))] [] tm hp fun (xx : ((LL×Bool)×(Int×(Unit×Unit)))) (yy : Unit)=>f52_1 xx.1.1 xx.1.2 xx.2.1 (fun n0_0=>K (I n0_0) [])
theorem f52_1_eq (es_11 : LL) (full_12 : Bool) (n_13 : Int) (K : TV→List Entry→Prop) : (f52_1_d es_11 full_12 n_13 (fun n0_0=>K (I n0_0) [])) = funcT f52_1_C Tryd.f52 [.w (.one (.p (.sl 15 es_11 full_12))),I n_13,.w (.one (.p (.c (.func (.func 54) #[] #[]))))] [] K:=by kernel_rfl
set_option maxHeartbeats 4000000 in
theorem f52_1_ok0 : FnOk Tryd.prog glob 52 f52_1_G0:=by
  refine FnOk.of_text (C:=f52_1_C) tab_ok.ok (Known.add f54_G_ok (Known.none)) follows_ok (fn:=Tryd.f52) (by kernel_rfl) (by kernel_rfl) (by kernel_rfl) (fun c hc=>?_) fun tm hp K h=>?_
  · have e : c = bodyOf Tryd.f52:=Option.some.inj (hc.symm.trans (by kernel_rfl))
    subst e
    exact ⟨LoopsOk.of [bd Tryd.f52 0] (by kernel_rfl) ⟨f52_1_p4_ok,trivial⟩,TailsOk.of (tab:=f52_1_tab) rfl [] (by kernel_rfl) trivial⟩
  · unfold f52_1_G0 at h
    obtain ⟨xx,yy,rfl,rfl,h⟩:=getS_elim h
    have e:=(f52_1_eq xx.1.1 xx.1.2 xx.2.1 K).trans (show _ = funcT f52_1_C Tryd.f52 (mkR _ xx) (mkE _ yy) K by kernel_rfl)
    rw [← e]
    exact h.run
def f52_1_G : List TV→List Entry→(TV→List Entry→Prop)→Prop:=fun args H K=>bif isSig (sigOf args H) [5,2,1054,7] then f52_1_G0 args H K else f52_G args H K
theorem f52_1_G_ok : FnOk Tryd.prog glob 52 f52_1_G:=FnOk.or _ f52_1_ok0 f52_G_ok
def f55_d (n1 : Int) (s2 : ByteArray) (n3 n4 : Int) (n5 n6 : Int) (n7 n8 : Int) (n9 n10 : Int) (n11 n12 n13 : Int) (s14 : ByteArray) (n15 : Int) (es16 : LL) (full17 : Bool) (m18 : MP) (k0 : Bool→MP→Prop) : Prop:=oB ((MP.get (.string s2) m18).getD [pB false]) fun b19=>k0 b19 (MP.put (.string s2) [pB true] m18)
structure f55 (n1 : Int) (s2 : ByteArray) (n3 n4 : Int) (n5 n6 : Int) (n7 n8 : Int) (n9 n10 : Int) (n11 n12 n13 : Int) (s14 : ByteArray) (n15 : Int) (es16 : LL) (full17 : Bool) (m18 : MP) (k0 : Bool→MP→Prop) : Prop where
  run : f55_d n1 s2 n3 n4 n5 n6 n7 n8 n9 n10 n11 n12 n13 s14 n15 es16 full17 m18 k0
def f55_tab : List (Nat×Told):=[]
def f55_call : FuncId→List TV→List Entry→(TV→List Entry→Prop)→Prop:=noCalls
def f55_C : Ctx:=mkC [] [] [] [] [] false 2 true (lookL f55_tab) f55_call
def f55_G0 : List TV→List Entry→(TV→List Entry→Prop)→Prop:=fun tm hp K=>getS [.v (.one (.int .i64)),.v (.pagg [.str,.int .i64,.int .i64,.int .i64,.int .i64,.int .i64,.int .i64,.int .i64,.int .i64,.int .i64,.int .i64,.int .i64,.str,.int .i64,.sl 3]),.v (.one (.ptr 0 0 0))] [.box [.mref 1],.mp (.str) false] tm hp fun (xx : (Int×((ByteArray×(Int×(Int×(Int×(Int×(Int×(Int×(Int×(Int×(Int×(Int×(Int×(ByteArray×(Int×((LL×Bool)×Unit)))))))))))))))×(Unit×Unit)))) (yy : ((Unit×Unit)×(MP×Unit)))=>f55 xx.1 xx.2.1.1 xx.2.1.2.1 xx.2.1.2.2.1 xx.2.1.2.2.2.1 xx.2.1.2.2.2.2.1 xx.2.1.2.2.2.2.2.1 xx.2.1.2.2.2.2.2.2.1 xx.2.1.2.2.2.2.2.2.2.1 xx.2.1.2.2.2.2.2.2.2.2.1 xx.2.1.2.2.2.2.2.2.2.2.2.1 xx.2.1.2.2.2.2.2.2.2.2.2.2.1 xx.2.1.2.2.2.2.2.2.2.2.2.2.2.1 xx.2.1.2.2.2.2.2.2.2.2.2.2.2.2.1 xx.2.1.2.2.2.2.2.2.2.2.2.2.2.2.2.1 xx.2.1.2.2.2.2.2.2.2.2.2.2.2.2.2.2.1.1 xx.2.1.2.2.2.2.2.2.2.2.2.2.2.2.2.2.1.2 yy.2.1 (fun b0_0 m0_1=>K (B b0_0) [.box [.mref 1],.mp (.str) false m0_1])
theorem f55_eq (n_2 : Int) (s_3 : ByteArray) (n_4 n_5 : Int) (n_6 n_7 : Int) (n_8 n_9 : Int) (n_10 n_11 : Int) (n_12 n_13 n_14 : Int) (s_15 : ByteArray) (n_16 : Int) (es_17 : LL) (full_18 : Bool) (m_19 : MP) (K : TV→List Entry→Prop) : (f55_d n_2 s_3 n_4 n_5 n_6 n_7 n_8 n_9 n_10 n_11 n_12 n_13 n_14 s_15 n_16 es_17 full_18 m_19 (fun b0_0 m0_1=>K (B b0_0) [.box [.mref 1],.mp (.str) false m0_1])) = funcT f55_C Tryd.f55 [I n_2,.w (.pagg [pS s_3,pI n_4,pI n_5,pI n_6,pI n_7,pI n_8,pI n_9,pI n_10,pI n_11,pI n_12,pI n_13,pI n_14,pS s_15,pI n_16,.sl 3 es_17 full_18]),.w (.one (.ptr 0 0 0))] [.box [.mref 1],.mp (.str) false m_19] K:=by kernel_rfl
set_option maxHeartbeats 4000000 in
theorem f55_ok0 : FnOk Tryd.prog glob 55 f55_G0:=by
  refine FnOk.of_text (C:=f55_C) tab_ok.ok (Known.none) follows_ok (fn:=Tryd.f55) (by kernel_rfl) (by kernel_rfl) (by kernel_rfl) (fun c hc=>?_) fun tm hp K h=>?_
  · have e : c = bodyOf Tryd.f55:=Option.some.inj (hc.symm.trans (by kernel_rfl))
    subst e
    exact ⟨LoopsOk.of [] (by kernel_rfl) trivial,TailsOk.of (tab:=f55_tab) rfl [] (by kernel_rfl) trivial⟩
  · unfold f55_G0 at h
    obtain ⟨xx,yy,rfl,rfl,h⟩:=getS_elim h
    have e:=(f55_eq xx.1 xx.2.1.1 xx.2.1.2.1 xx.2.1.2.2.1 xx.2.1.2.2.2.1 xx.2.1.2.2.2.2.1 xx.2.1.2.2.2.2.2.1 xx.2.1.2.2.2.2.2.2.1 xx.2.1.2.2.2.2.2.2.2.1 xx.2.1.2.2.2.2.2.2.2.2.1 xx.2.1.2.2.2.2.2.2.2.2.2.1 xx.2.1.2.2.2.2.2.2.2.2.2.2.1 xx.2.1.2.2.2.2.2.2.2.2.2.2.2.1 xx.2.1.2.2.2.2.2.2.2.2.2.2.2.2.1 xx.2.1.2.2.2.2.2.2.2.2.2.2.2.2.2.1 xx.2.1.2.2.2.2.2.2.2.2.2.2.2.2.2.2.1.1 xx.2.1.2.2.2.2.2.2.2.2.2.2.2.2.2.2.1.2 yy.2.1 K).trans (show _ = funcT f55_C Tryd.f55 (mkR _ xx) (mkE _ yy) K by kernel_rfl)
    rw [← e]
    exact h.run
abbrev f55_G:=f55_G0
theorem f55_G_ok : FnOk Tryd.prog glob 55 f55_G:=f55_ok0
def f52_2_p4b0 (n5 : Int) (es6 : LL) (full7 : Bool) (n8 n9 : Int) (m10 : MP) (N0 : Int→MP→Prop) (k0 : MP→Prop) (k1 : MP→Prop) : Prop:=bB (decide (n9 < n8)) ((0≤n9∧n9 < (es6.length : Int))∧cS (ext (List.getD es6 (Int.toNat n9) []) 0 15) fun s12 r11=>cI .i64 r11 fun n14 r13=>cI .i64 r13 fun n16 r15=>cI .i64 r15 fun n18 r17=>cI .i64 r17 fun n20 r19=>cI .i64 r19 fun n22 r21=>cI .i64 r21 fun n24 r23=>cI .i64 r23 fun n26 r25=>cI .i64 r25 fun n28 r27=>cI .i64 r27 fun n30 r29=>cI .i64 r29 fun n32 r31=>cI .i64 r31 fun n34 r33=>cS r33 fun s36 r35=>cI .i64 r35 fun n38 r37=>cL 3 r37 fun es40 full41 r39=>nilC r39 <| f55 n9 s12 n14 n16 n18 n20 n22 n24 n26 n28 n30 n32 n34 s36 n38 es40 full41 m10 (fun b42 m43=>bB b42 (k0 m43) (N0 (w64 (n9 + 1)) m43))) (k1 m10)
def f52_2_p4 (n5 : Int) (es6 : LL) (full7 : Bool) (n8 : Int) (k0 : MP→Prop) (k1 : MP→Prop) : Int×MP→Prop:=LoopP fun x N=>f52_2_p4b0 n5 es6 full7 n8 x.1 x.2 (fun n9 m10=>N (n9,m10)) k0 k1
def f52_2_d (es1 : LL) (full2 : Bool) (n3 : Int) (m4 : MP) (k0 : Int→MP→Prop) : Prop:=f52_2_p4 n3 es1 full2 (es1.length : Int) (fun m44=>k0 n3 m44) (fun m45=>k0 0 m45) (0,m4)
structure f52_2 (es1 : LL) (full2 : Bool) (n3 : Int) (m4 : MP) (k0 : Int→MP→Prop) : Prop where
  run : f52_2_d es1 full2 n3 m4 k0
def f52_2_p4L : Told:=fun s K=>match s with
  | ⟨tm,hp⟩=>getS [.skip 1,.v (.one (.int .i64)),.v (.clo 55 [] [.ptr 0 0 0]),.skip 6,.v (.one (.sl 15)),.v (.one (.int .i64)),.v (.one (.int .i64)),.skip 10] [.box [.mref 1],.mp (.str) false] tm hp fun (xx : (Unit×(Int×((Unit×(Unit×Unit))×(Unit×((LL×Bool)×(Int×(Int×(Unit×Unit))))))))) (yy : ((Unit×Unit)×(MP×Unit)))=>f52_2_p4 xx.2.1 xx.2.2.2.2.1.1 xx.2.2.2.2.1.2 xx.2.2.2.2.2.1 (fun m0_0=>K .ret ⟨mkS 22 [(6,I xx.2.1)],[.box [.mref 1],.mp (.str) false m0_0]⟩) (fun m1_1=>K (.exit 0) ⟨mkS 22 [],[.box [.mref 1],.mp (.str) false m1_1]⟩) (xx.2.2.2.2.2.2.1,yy.2.1)
def f52_2_tab : List (Nat×Told):=[(4,f52_2_p4L)]
def f52_2_call : FuncId→List TV→List Entry→(TV→List Entry→Prop)→Prop:=addCall 55 f55_G (noCalls)
def f52_2_C : Ctx:=mkC [(4,[(0,[1,2,9,10,11]),(2,[6]),(3,[])])] [] [] [] [] false 2 true (lookL f52_2_tab) f52_2_call
def f52_2_p4_mk (n5 : Int) (es6 : LL) (full7 : Bool) (n8 : Int) (x : Int×MP) : St:=⟨mkS 22 [(1,I n5),(2,.w (.one (.clo 55 [] [.ptr 0 0 0]))),(9,.w (.one (.p (.sl 15 es6 full7)))),(10,I n8),(11,I x.1)],[.box [.mref 1],.mp (.str) false x.2]⟩
theorem f52_2_p4e0 (n_10 : Int) (es_11 : LL) (full_12 : Bool) (n_13 n_14 : Int) (m_15 : MP) (N : St→Prop) (K : TExit→St→Prop) : (f52_2_p4b0 n_10 es_11 full_12 n_13 n_14 m_15 (fun z4 z5=>N (f52_2_p4_mk n_10 es_11 full_12 n_13 (z4,z5))) (fun m0_16=>K .ret ⟨mkS 22 [(6,I n_10)],[.box [.mref 1],.mp (.str) false m0_16]⟩) (fun m1_17=>K (.exit 0) ⟨mkS 22 [],[.box [.mref 1],.mp (.str) false m1_17]⟩)) = execT f52_2_C (bd Tryd.f52 0) (f52_2_p4_mk n_10 es_11 full_12 n_13 (n_14,m_15)) (loopK N (normK f52_2_C 4) fun e s=>K e (normOut f52_2_C 4 e s)):=by kernel_rfl
set_option maxHeartbeats 4000000 in
theorem f52_2_p4_ok : LoopOk f52_2_C (bd Tryd.f52 0):=by
  refine LoopOk.of f52_2_p4L (by kernel_rfl) fun σ K h=>?_
  have hk : loopKey (bd Tryd.f52 0) = 4:=by kernel_rfl
  rw [hk] at h ⊢
  generalize hs : normK f52_2_C 4 σ = s at h
  obtain ⟨tm,hp⟩:=s
  unfold f52_2_p4L at h
  dsimp only at h
  obtain ⟨xx,yy,rfl,rfl,h⟩:=getS_elim h
  refine iter_of (f52_2_p4_mk xx.2.1 xx.2.2.2.2.1.1 xx.2.2.2.2.1.2 xx.2.2.2.2.2.1) (fun x N h=>?_) rounds _ σ (hs.trans (by kernel_rfl)) (LoopP.run h)
  obtain ⟨y0,y1⟩:=x
  rw [← f52_2_p4e0 xx.2.1 xx.2.2.2.2.1.1 xx.2.2.2.2.1.2 xx.2.2.2.2.2.1 y0 y1 N K]
  exact h
def f52_2_G0 : List TV→List Entry→(TV→List Entry→Prop)→Prop:=fun tm hp K=>getS [.v (.one (.sl 15)),.v (.one (.int .i64)),.v (.clo 55 [] [.ptr 0 0 0])] [.box [.mref 1],.mp (.str) false] tm hp fun (xx : ((LL×Bool)×(Int×((Unit×(Unit×Unit))×Unit)))) (yy : ((Unit×Unit)×(MP×Unit)))=>f52_2 xx.1.1 xx.1.2 xx.2.1 yy.2.1 (fun n0_2 m0_3=>K (I n0_2) [.box [.mref 1],.mp (.str) false m0_3])
theorem f52_2_eq (es_18 : LL) (full_19 : Bool) (n_20 : Int) (m_21 : MP) (K : TV→List Entry→Prop) : (f52_2_d es_18 full_19 n_20 m_21 (fun n0_2 m0_3=>K (I n0_2) [.box [.mref 1],.mp (.str) false m0_3])) = funcT f52_2_C Tryd.f52 [.w (.one (.p (.sl 15 es_18 full_19))),I n_20,.w (.one (.clo 55 [] [.ptr 0 0 0]))] [.box [.mref 1],.mp (.str) false m_21] K:=by kernel_rfl
set_option maxHeartbeats 4000000 in
theorem f52_2_ok0 : FnOk Tryd.prog glob 52 f52_2_G0:=by
  refine FnOk.of_text (C:=f52_2_C) tab_ok.ok (Known.add f55_G_ok (Known.none)) follows_ok (fn:=Tryd.f52) (by kernel_rfl) (by kernel_rfl) (by kernel_rfl) (fun c hc=>?_) fun tm hp K h=>?_
  · have e : c = bodyOf Tryd.f52:=Option.some.inj (hc.symm.trans (by kernel_rfl))
    subst e
    exact ⟨LoopsOk.of [bd Tryd.f52 0] (by kernel_rfl) ⟨f52_2_p4_ok,trivial⟩,TailsOk.of (tab:=f52_2_tab) rfl [] (by kernel_rfl) trivial⟩
  · unfold f52_2_G0 at h
    obtain ⟨xx,yy,rfl,rfl,h⟩:=getS_elim h
    have e:=(f52_2_eq xx.1.1 xx.1.2 xx.2.1 yy.2.1 K).trans (show _ = funcT f52_2_C Tryd.f52 (mkR _ xx) (mkE _ yy) K by kernel_rfl)
    rw [← e]
    exact h.run
def f52_2_G : List TV→List Entry→(TV→List Entry→Prop)→Prop:=fun args H K=>bif isSig (sigOf args H) [5,2,100055,7,20,501,25] then f52_2_G0 args H K else f52_1_G args H K
theorem f52_2_G_ok : FnOk Tryd.prog glob 52 f52_2_G:=FnOk.or _ f52_2_ok0 f52_1_G_ok
def f56_d (n1 : Int) (s2 : ByteArray) (n3 n4 : Int) (n5 n6 : Int) (n7 n8 : Int) (n9 n10 : Int) (n11 n12 n13 : Int) (s14 : ByteArray) (n15 : Int) (es16 : LL) (full17 : Bool) (k0 : Bool→Prop) : Prop:=bB (!(s14.toList == (⟨#[]⟩ : ByteArray).toList)) (k0 (!((n3 == 0) && ((n4 == 0) && ((n5 == 0) && ((n6 == 0) && ((n7 == 0) && ((n8 == 0) && ((n9 == 0) && ((n10 == 0) && ((n11 == 0) && ((n12 == 0) && ((n13 == 0) && true))))))))))))) (k0 false)
structure f56 (n1 : Int) (s2 : ByteArray) (n3 n4 : Int) (n5 n6 : Int) (n7 n8 : Int) (n9 n10 : Int) (n11 n12 n13 : Int) (s14 : ByteArray) (n15 : Int) (es16 : LL) (full17 : Bool) (k0 : Bool→Prop) : Prop where
  run : f56_d n1 s2 n3 n4 n5 n6 n7 n8 n9 n10 n11 n12 n13 s14 n15 es16 full17 k0
def f56_tab : List (Nat×Told):=[]
def f56_call : FuncId→List TV→List Entry→(TV→List Entry→Prop)→Prop:=noCalls
def f56_C : Ctx:=mkC [] [] [] [] [] false 0 true (lookL f56_tab) f56_call
def f56_G0 : List TV→List Entry→(TV→List Entry→Prop)→Prop:=fun tm hp K=>getS [.v (.one (.int .i64)),.v (.pagg [.str,.int .i64,.int .i64,.int .i64,.int .i64,.int .i64,.int .i64,.int .i64,.int .i64,.int .i64,.int .i64,.int .i64,.str,.int .i64,.sl 3])] [] tm hp fun (xx : (Int×((ByteArray×(Int×(Int×(Int×(Int×(Int×(Int×(Int×(Int×(Int×(Int×(Int×(ByteArray×(Int×((LL×Bool)×Unit)))))))))))))))×Unit))) (yy : Unit)=>f56 xx.1 xx.2.1.1 xx.2.1.2.1 xx.2.1.2.2.1 xx.2.1.2.2.2.1 xx.2.1.2.2.2.2.1 xx.2.1.2.2.2.2.2.1 xx.2.1.2.2.2.2.2.2.1 xx.2.1.2.2.2.2.2.2.2.1 xx.2.1.2.2.2.2.2.2.2.2.1 xx.2.1.2.2.2.2.2.2.2.2.2.1 xx.2.1.2.2.2.2.2.2.2.2.2.2.1 xx.2.1.2.2.2.2.2.2.2.2.2.2.2.1 xx.2.1.2.2.2.2.2.2.2.2.2.2.2.2.1 xx.2.1.2.2.2.2.2.2.2.2.2.2.2.2.2.1 xx.2.1.2.2.2.2.2.2.2.2.2.2.2.2.2.2.1.1 xx.2.1.2.2.2.2.2.2.2.2.2.2.2.2.2.2.1.2 (fun b0_0=>K (B b0_0) [])
theorem f56_eq (n_1 : Int) (s_2 : ByteArray) (n_3 n_4 : Int) (n_5 n_6 : Int) (n_7 n_8 : Int) (n_9 n_10 : Int) (n_11 n_12 n_13 : Int) (s_14 : ByteArray) (n_15 : Int) (es_16 : LL) (full_17 : Bool) (K : TV→List Entry→Prop) : (f56_d n_1 s_2 n_3 n_4 n_5 n_6 n_7 n_8 n_9 n_10 n_11 n_12 n_13 s_14 n_15 es_16 full_17 (fun b0_0=>K (B b0_0) [])) = funcT f56_C Tryd.f56 [I n_1,.w (.pagg [pS s_2,pI n_3,pI n_4,pI n_5,pI n_6,pI n_7,pI n_8,pI n_9,pI n_10,pI n_11,pI n_12,pI n_13,pS s_14,pI n_15,.sl 3 es_16 full_17])] [] K:=by kernel_rfl
set_option maxHeartbeats 4000000 in
theorem f56_ok0 : FnOk Tryd.prog glob 56 f56_G0:=by
  refine FnOk.of_text (C:=f56_C) tab_ok.ok (Known.none) follows_ok (fn:=Tryd.f56) (by kernel_rfl) (by kernel_rfl) (by kernel_rfl) (fun c hc=>?_) fun tm hp K h=>?_
  · have e : c = bodyOf Tryd.f56:=Option.some.inj (hc.symm.trans (by kernel_rfl))
    subst e
    exact ⟨LoopsOk.of [] (by kernel_rfl) trivial,TailsOk.of (tab:=f56_tab) rfl [] (by kernel_rfl) trivial⟩
  · unfold f56_G0 at h
    obtain ⟨xx,yy,rfl,rfl,h⟩:=getS_elim h
    have e:=(f56_eq xx.1 xx.2.1.1 xx.2.1.2.1 xx.2.1.2.2.1 xx.2.1.2.2.2.1 xx.2.1.2.2.2.2.1 xx.2.1.2.2.2.2.2.1 xx.2.1.2.2.2.2.2.2.1 xx.2.1.2.2.2.2.2.2.2.1 xx.2.1.2.2.2.2.2.2.2.2.1 xx.2.1.2.2.2.2.2.2.2.2.2.1 xx.2.1.2.2.2.2.2.2.2.2.2.2.1 xx.2.1.2.2.2.2.2.2.2.2.2.2.2.1 xx.2.1.2.2.2.2.2.2.2.2.2.2.2.2.1 xx.2.1.2.2.2.2.2.2.2.2.2.2.2.2.2.1 xx.2.1.2.2.2.2.2.2.2.2.2.2.2.2.2.2.1.1 xx.2.1.2.2.2.2.2.2.2.2.2.2.2.2.2.2.1.2 K).trans (show _ = funcT f56_C Tryd.f56 (mkR _ xx) (mkE _ yy) K by kernel_rfl)
    rw [← e]
    exact h.run
abbrev f56_G:=f56_G0
theorem f56_G_ok : FnOk Tryd.prog glob 56 f56_G:=f56_ok0
def f52_3_p4b0 (n4 : Int) (es5 : LL) (full6 : Bool) (n7 n8 : Int) (N0 : Int→Prop) (k0 : Unit→Prop) (k1 : Unit→Prop) : Prop:=bB (decide (n8 < n7)) ((0≤n8∧n8 < (es5.length : Int))∧cS (ext (List.getD es5 (Int.toNat n8) []) 0 15) fun s10 r9=>cI .i64 r9 fun n12 r11=>cI .i64 r11 fun n14 r13=>cI .i64 r13 fun n16 r15=>cI .i64 r15 fun n18 r17=>cI .i64 r17 fun n20 r19=>cI .i64 r19 fun n22 r21=>cI .i64 r21 fun n24 r23=>cI .i64 r23 fun n26 r25=>cI .i64 r25 fun n28 r27=>cI .i64 r27 fun n30 r29=>cI .i64 r29 fun n32 r31=>cS r31 fun s34 r33=>cI .i64 r33 fun n36 r35=>cL 3 r35 fun es38 full39 r37=>nilC r37 <| f56 n8 s10 n12 n14 n16 n18 n20 n22 n24 n26 n28 n30 n32 s34 n36 es38 full39 (fun b40=>bB b40 (k0 ()) (N0 (w64 (n8 + 1))))) (k1 ())
def f52_3_p4 (n4 : Int) (es5 : LL) (full6 : Bool) (n7 : Int) (k0 : Unit→Prop) (k1 : Unit→Prop) : Int→Prop:=LoopP fun x N=>f52_3_p4b0 n4 es5 full6 n7 x (fun n8=>N n8) k0 k1
def f52_3_d (es1 : LL) (full2 : Bool) (n3 : Int) (k0 : Int→Prop) : Prop:=f52_3_p4 n3 es1 full2 (es1.length : Int) (fun (_ : Unit)=>k0 n3) (fun (_ : Unit)=>k0 0) 0
structure f52_3 (es1 : LL) (full2 : Bool) (n3 : Int) (k0 : Int→Prop) : Prop where
  run : f52_3_d es1 full2 n3 k0
def f52_3_p4L : Told:=fun s K=>match s with
  | ⟨tm,hp⟩=>getS [.skip 1,.v (.one (.int .i64)),.v (.one (.fn 56)),.skip 6,.v (.one (.sl 15)),.v (.one (.int .i64)),.v (.one (.int .i64)),.skip 10] [] tm hp fun (xx : (Unit×(Int×(Unit×(Unit×((LL×Bool)×(Int×(Int×(Unit×Unit))))))))) (yy : Unit)=>f52_3_p4 xx.2.1 xx.2.2.2.2.1.1 xx.2.2.2.2.1.2 xx.2.2.2.2.2.1 (fun (_ : Unit)=>K .ret ⟨mkS 22 [(6,I xx.2.1)],[]⟩) (fun (_ : Unit)=>K (.exit 0) ⟨mkS 22 [],[]⟩) xx.2.2.2.2.2.2.1
def f52_3_tab : List (Nat×Told):=[(4,f52_3_p4L)]
def f52_3_call : FuncId→List TV→List Entry→(TV→List Entry→Prop)→Prop:=addCall 56 f56_G (noCalls)
def f52_3_C : Ctx:=mkC [(4,[(0,[1,2,9,10,11]),(2,[6]),(3,[])])] [] [] [] [] false 0 true (lookL f52_3_tab) f52_3_call
def f52_3_p4_mk (n4 : Int) (es5 : LL) (full6 : Bool) (n7 x : Int) : St:=⟨mkS 22 [(1,I n4),(2,.w (.one (.p (.c (.func (.func 56) #[] #[]))))),(9,.w (.one (.p (.sl 15 es5 full6)))),(10,I n7),(11,I x)],[]⟩
theorem f52_3_p4e0 (n_6 : Int) (es_7 : LL) (full_8 : Bool) (n_9 n_10 : Int) (N : St→Prop) (K : TExit→St→Prop) : (f52_3_p4b0 n_6 es_7 full_8 n_9 n_10 (fun z4=>N (f52_3_p4_mk n_6 es_7 full_8 n_9 z4)) (fun (_ : Unit)=>K .ret ⟨mkS 22 [(6,I n_6)],[]⟩) (fun (_ : Unit)=>K (.exit 0) ⟨mkS 22 [],[]⟩)) = execT f52_3_C (bd Tryd.f52 0) (f52_3_p4_mk n_6 es_7 full_8 n_9 n_10) (loopK N (normK f52_3_C 4) fun e s=>K e (normOut f52_3_C 4 e s)):=by kernel_rfl
set_option maxHeartbeats 4000000 in
theorem f52_3_p4_ok : LoopOk f52_3_C (bd Tryd.f52 0):=by
  refine LoopOk.of f52_3_p4L (by kernel_rfl) fun σ K h=>?_
  have hk : loopKey (bd Tryd.f52 0) = 4:=by kernel_rfl
  rw [hk] at h ⊢
  generalize hs : normK f52_3_C 4 σ = s at h
  obtain ⟨tm,hp⟩:=s
  unfold f52_3_p4L at h
  dsimp only at h
  obtain ⟨xx,yy,rfl,rfl,h⟩:=getS_elim h
  refine iter_of (f52_3_p4_mk xx.2.1 xx.2.2.2.2.1.1 xx.2.2.2.2.1.2 xx.2.2.2.2.2.1) (fun x N h=>?_) rounds _ σ (hs.trans (by kernel_rfl)) (LoopP.run h)
  rw [← f52_3_p4e0 xx.2.1 xx.2.2.2.2.1.1 xx.2.2.2.2.1.2 xx.2.2.2.2.2.1 x N K]
  exact h
def f52_3_G0 : List TV→List Entry→(TV→List Entry→Prop)→Prop:=fun tm hp K=>getS [.v (.one (.sl 15)),.v (.one (.int .i64)),.v (.one (.fn 56))] [] tm hp fun (xx : ((LL×Bool)×(Int×(Unit×Unit)))) (yy : Unit)=>f52_3 xx.1.1 xx.1.2 xx.2.1 (fun n0_0=>K (I n0_0) [])
theorem f52_3_eq (es_11 : LL) (full_12 : Bool) (n_13 : Int) (K : TV→List Entry→Prop) : (f52_3_d es_11 full_12 n_13 (fun n0_0=>K (I n0_0) [])) = funcT f52_3_C Tryd.f52 [.w (.one (.p (.sl 15 es_11 full_12))),I n_13,.w (.one (.p (.c (.func (.func 56) #[] #[]))))] [] K:=by kernel_rfl
set_option maxHeartbeats 4000000 in
theorem f52_3_ok0 : FnOk Tryd.prog glob 52 f52_3_G0:=by
  refine FnOk.of_text (C:=f52_3_C) tab_ok.ok (Known.add f56_G_ok (Known.none)) follows_ok (fn:=Tryd.f52) (by kernel_rfl) (by kernel_rfl) (by kernel_rfl) (fun c hc=>?_) fun tm hp K h=>?_
  · have e : c = bodyOf Tryd.f52:=Option.some.inj (hc.symm.trans (by kernel_rfl))
    subst e
    exact ⟨LoopsOk.of [bd Tryd.f52 0] (by kernel_rfl) ⟨f52_3_p4_ok,trivial⟩,TailsOk.of (tab:=f52_3_tab) rfl [] (by kernel_rfl) trivial⟩
  · unfold f52_3_G0 at h
    obtain ⟨xx,yy,rfl,rfl,h⟩:=getS_elim h
    have e:=(f52_3_eq xx.1.1 xx.1.2 xx.2.1 K).trans (show _ = funcT f52_3_C Tryd.f52 (mkR _ xx) (mkE _ yy) K by kernel_rfl)
    rw [← e]
    exact h.run
def f52_3_G : List TV→List Entry→(TV→List Entry→Prop)→Prop:=fun args H K=>bif isSig (sigOf args H) [5,2,1056,7] then f52_3_G0 args H K else f52_2_G args H K
theorem f52_3_G_ok : FnOk Tryd.prog glob 52 f52_3_G:=FnOk.or _ f52_3_ok0 f52_2_G_ok
def f39_p4b0 (s4 : ByteArray) (es5 : LL) (full6 : Bool) (n7 n8 : Int) (s9 : ByteArray) (N0 : Int→Prop) (k0 : Bool→ByteArray→(LL)→Bool→Prop) (k1 : Unit→Prop) : Prop:=bB (decide (n8 < n7)) ((0≤n8∧n8 < (es5.length : Int))∧cS (ext (List.getD es5 (Int.toNat n8) []) 0 2) fun s11 r10=>cL 11 r10 fun es13 full14 r12=>nilC r12 <| bB (s11.toList == s4.toList) (k0 true s11 es13 full14) (N0 (w64 (n8 + 1)))) (k1 ())
def f39_p4 (s4 : ByteArray) (es5 : LL) (full6 : Bool) (n7 : Int) (s9 : ByteArray) (k0 : Bool→ByteArray→(LL)→Bool→Prop) (k1 : Unit→Prop) : Int→Prop:=LoopP fun x N=>f39_p4b0 s4 es5 full6 n7 x s9 (fun n8=>N n8) k0 k1
def f39_d (es1 : LL) (full2 : Bool) (s3 : ByteArray) (k0 : ByteArray→(LL)→Bool→Bool→Prop) : Prop:=f39_p4 s3 es1 full2 (es1.length : Int) (⟨#[]⟩ : ByteArray) (fun b15 s16 es17 full18=>k0 s16 es17 full18 b15) (fun (_ : Unit)=>k0 (⟨#[]⟩ : ByteArray) [] true false) 0
structure f39 (es1 : LL) (full2 : Bool) (s3 : ByteArray) (k0 : ByteArray→(LL)→Bool→Bool→Prop) : Prop where
  run : f39_d es1 full2 s3 k0
def f39_p4L : Told:=fun s K=>match s with
  | ⟨tm,hp⟩=>getS [.skip 1,.v (.one (.str)),.skip 2,.v (.one (.ptr 0 0 0)),.skip 3,.v (.one (.sl 2)),.v (.one (.int .i64)),.v (.one (.int .i64)),.skip 10] [.box [.str,.nil 11]] tm hp fun (xx : (Unit×(ByteArray×(Unit×(Unit×(Unit×((LL×Bool)×(Int×(Int×(Unit×Unit)))))))))) (yy : ((ByteArray×(Unit×Unit))×Unit))=>f39_p4 xx.2.1 xx.2.2.2.2.2.1.1 xx.2.2.2.2.2.1.2 xx.2.2.2.2.2.2.1 yy.1.1 (fun b0_0 s0_1 es0_2 full0_3=>K .ret ⟨mkS 21 [(4,.w (.one (.ptr 0 0 0))),(5,B b0_0)],[.box [.p (pS s0_1),.p (.sl 11 es0_2 full0_3)]]⟩) (fun (_ : Unit)=>K (.exit 0) ⟨mkS 21 [(4,.w (.one (.ptr 0 0 0)))],[.box [.p (pS yy.1.1),.p (.sl 11 [] true)]]⟩) xx.2.2.2.2.2.2.2.1
def f39_tab : List (Nat×Told):=[(4,f39_p4L)]
def f39_call : FuncId→List TV→List Entry→(TV→List Entry→Prop)→Prop:=noCalls
def f39_C : Ctx:=mkC [(4,[(0,[1,4,8,9,10]),(2,[4,5]),(3,[4])])] [] [] [] [] false 0 true (lookL f39_tab) f39_call
def f39_p4_mk (s4 : ByteArray) (es5 : LL) (full6 : Bool) (n7 : Int) (s9 : ByteArray) (x : Int) : St:=⟨mkS 21 [(1,S s4),(4,.w (.one (.ptr 0 0 0))),(8,.w (.one (.p (.sl 2 es5 full6)))),(9,I n7),(10,I x)],[.box [.p (pS s9),.p (.sl 11 [] true)]]⟩
theorem f39_p4e0 (s_14 : ByteArray) (es_15 : LL) (full_16 : Bool) (n_17 n_18 : Int) (s_19 : ByteArray) (N : St→Prop) (K : TExit→St→Prop) : (f39_p4b0 s_14 es_15 full_16 n_17 n_18 s_19 (fun z4=>N (f39_p4_mk s_14 es_15 full_16 n_17 s_19 z4)) (fun b0_20 s0_21 es0_22 full0_23=>K .ret ⟨mkS 21 [(4,.w (.one (.ptr 0 0 0))),(5,B b0_20)],[.box [.p (pS s0_21),.p (.sl 11 es0_22 full0_23)]]⟩) (fun (_ : Unit)=>K (.exit 0) ⟨mkS 21 [(4,.w (.one (.ptr 0 0 0)))],[.box [.p (pS s_19),.p (.sl 11 [] true)]]⟩)) = execT f39_C (bd Tryd.f39 0) (f39_p4_mk s_14 es_15 full_16 n_17 s_19 n_18) (loopK N (normK f39_C 4) fun e s=>K e (normOut f39_C 4 e s)):=by kernel_rfl
set_option maxHeartbeats 4000000 in
theorem f39_p4_ok : LoopOk f39_C (bd Tryd.f39 0):=by
  refine LoopOk.of f39_p4L (by kernel_rfl) fun σ K h=>?_
  have hk : loopKey (bd Tryd.f39 0) = 4:=by kernel_rfl
  rw [hk] at h ⊢
  generalize hs : normK f39_C 4 σ = s at h
  obtain ⟨tm,hp⟩:=s
  unfold f39_p4L at h
  dsimp only at h
  obtain ⟨xx,yy,rfl,rfl,h⟩:=getS_elim h
  refine iter_of (f39_p4_mk xx.2.1 xx.2.2.2.2.2.1.1 xx.2.2.2.2.2.1.2 xx.2.2.2.2.2.2.1 yy.1.1) (fun x N h=>?_) rounds _ σ (hs.trans (by kernel_rfl)) (LoopP.run h)
  rw [← f39_p4e0 xx.2.1 xx.2.2.2.2.2.1.1 xx.2.2.2.2.2.1.2 xx.2.2.2.2.2.2.1 x yy.1.1 N K]
  exact h
def f39_G0 : List TV→List Entry→(TV→List Entry→Prop)→Prop:=fun tm hp K=>getS [.v (.one (.sl 2)),.v (.one (.str))] [] tm hp fun (xx : ((LL×Bool)×(ByteArray×Unit))) (yy : Unit)=>f39 xx.1.1 xx.1.2 xx.2.1 (fun s0_4 es0_5 full0_6 b0_7=>K (.tup [.pagg [pS s0_4,.sl 11 es0_5 full0_6],.one (.p (pB b0_7))]) [])
theorem f39_eq (es_24 : LL) (full_25 : Bool) (s_26 : ByteArray) (K : TV→List Entry→Prop) : (f39_d es_24 full_25 s_26 (fun s0_4 es0_5 full0_6 b0_7=>K (.tup [.pagg [pS s0_4,.sl 11 es0_5 full0_6],.one (.p (pB b0_7))]) [])) = funcT f39_C Tryd.f39 [.w (.one (.p (.sl 2 es_24 full_25))),S s_26] [] K:=by kernel_rfl
set_option maxHeartbeats 4000000 in
theorem f39_ok0 : FnOk Tryd.prog glob 39 f39_G0:=by
  refine FnOk.of_text (C:=f39_C) tab_ok.ok (Known.none) follows_ok (fn:=Tryd.f39) (by kernel_rfl) (by kernel_rfl) (by kernel_rfl) (fun c hc=>?_) fun tm hp K h=>?_
  · have e : c = bodyOf Tryd.f39:=Option.some.inj (hc.symm.trans (by kernel_rfl))
    subst e
    exact ⟨LoopsOk.of [bd Tryd.f39 0] (by kernel_rfl) ⟨f39_p4_ok,trivial⟩,TailsOk.of (tab:=f39_tab) rfl [] (by kernel_rfl) trivial⟩
  · unfold f39_G0 at h
    obtain ⟨xx,yy,rfl,rfl,h⟩:=getS_elim h
    have e:=(f39_eq xx.1.1 xx.1.2 xx.2.1 K).trans (show _ = funcT f39_C Tryd.f39 (mkR _ xx) (mkE _ yy) K by kernel_rfl)
    rw [← e]
    exact h.run
abbrev f39_G:=f39_G0
theorem f39_G_ok : FnOk Tryd.prog glob 39 f39_G:=f39_ok0
def f57_d (n1 : Int) (s2 : ByteArray) (n3 n4 : Int) (n5 n6 : Int) (n7 n8 : Int) (n9 n10 : Int) (n11 n12 n13 : Int) (s14 : ByteArray) (n15 : Int) (es16 : LL) (full17 : Bool) (es18 : LL) (full19 : Bool) (k0 : Bool→(LL)→Bool→Prop) : Prop:=f39 es18 full19 s14 (fun s20 es21 full22 b23=>bB (!(s14.toList == (⟨#[]⟩ : ByteArray).toList)) (k0 (!b23) es18 full19) (k0 false es18 full19))
structure f57 (n1 : Int) (s2 : ByteArray) (n3 n4 : Int) (n5 n6 : Int) (n7 n8 : Int) (n9 n10 : Int) (n11 n12 n13 : Int) (s14 : ByteArray) (n15 : Int) (es16 : LL) (full17 : Bool) (es18 : LL) (full19 : Bool) (k0 : Bool→(LL)→Bool→Prop) : Prop where
  run : f57_d n1 s2 n3 n4 n5 n6 n7 n8 n9 n10 n11 n12 n13 s14 n15 es16 full17 es18 full19 k0
def f57_tab : List (Nat×Told):=[]
def f57_call : FuncId→List TV→List Entry→(TV→List Entry→Prop)→Prop:=addCall 39 f39_G (noCalls)
def f57_C : Ctx:=mkC [] [] [] [] [] false 1 true (lookL f57_tab) f57_call
def f57_G0 : List TV→List Entry→(TV→List Entry→Prop)→Prop:=fun tm hp K=>getS [.v (.one (.int .i64)),.v (.pagg [.str,.int .i64,.int .i64,.int .i64,.int .i64,.int .i64,.int .i64,.int .i64,.int .i64,.int .i64,.int .i64,.int .i64,.str,.int .i64,.sl 3]),.v (.one (.ptr 0 0 0))] [.box [.sl 2]] tm hp fun (xx : (Int×((ByteArray×(Int×(Int×(Int×(Int×(Int×(Int×(Int×(Int×(Int×(Int×(Int×(ByteArray×(Int×((LL×Bool)×Unit)))))))))))))))×(Unit×Unit)))) (yy : (((LL×Bool)×Unit)×Unit))=>f57 xx.1 xx.2.1.1 xx.2.1.2.1 xx.2.1.2.2.1 xx.2.1.2.2.2.1 xx.2.1.2.2.2.2.1 xx.2.1.2.2.2.2.2.1 xx.2.1.2.2.2.2.2.2.1 xx.2.1.2.2.2.2.2.2.2.1 xx.2.1.2.2.2.2.2.2.2.2.1 xx.2.1.2.2.2.2.2.2.2.2.2.1 xx.2.1.2.2.2.2.2.2.2.2.2.2.1 xx.2.1.2.2.2.2.2.2.2.2.2.2.2.1 xx.2.1.2.2.2.2.2.2.2.2.2.2.2.2.1 xx.2.1.2.2.2.2.2.2.2.2.2.2.2.2.2.1 xx.2.1.2.2.2.2.2.2.2.2.2.2.2.2.2.2.1.1 xx.2.1.2.2.2.2.2.2.2.2.2.2.2.2.2.2.1.2 yy.1.1.1 yy.1.1.2 (fun b0_0 es0_1 full0_2=>K (B b0_0) [.box [.p (.sl 2 es0_1 full0_2)]])
theorem f57_eq (n_3 : Int) (s_4 : ByteArray) (n_5 n_6 : Int) (n_7 n_8 : Int) (n_9 n_10 : Int) (n_11 n_12 : Int) (n_13 n_14 n_15 : Int) (s_16 : ByteArray) (n_17 : Int) (es_18 : LL) (full_19 : Bool) (es_20 : LL) (full_21 : Bool) (K : TV→List Entry→Prop) : (f57_d n_3 s_4 n_5 n_6 n_7 n_8 n_9 n_10 n_11 n_12 n_13 n_14 n_15 s_16 n_17 es_18 full_19 es_20 full_21 (fun b0_0 es0_1 full0_2=>K (B b0_0) [.box [.p (.sl 2 es0_1 full0_2)]])) = funcT f57_C Tryd.f57 [I n_3,.w (.pagg [pS s_4,pI n_5,pI n_6,pI n_7,pI n_8,pI n_9,pI n_10,pI n_11,pI n_12,pI n_13,pI n_14,pI n_15,pS s_16,pI n_17,.sl 3 es_18 full_19]),.w (.one (.ptr 0 0 0))] [.box [.p (.sl 2 es_20 full_21)]] K:=by kernel_rfl
set_option maxHeartbeats 4000000 in
theorem f57_ok0 : FnOk Tryd.prog glob 57 f57_G0:=by
  refine FnOk.of_text (C:=f57_C) tab_ok.ok (Known.add f39_G_ok (Known.none)) follows_ok (fn:=Tryd.f57) (by kernel_rfl) (by kernel_rfl) (by kernel_rfl) (fun c hc=>?_) fun tm hp K h=>?_
  · have e : c = bodyOf Tryd.f57:=Option.some.inj (hc.symm.trans (by kernel_rfl))
    subst e
    exact ⟨LoopsOk.of [] (by kernel_rfl) trivial,TailsOk.of (tab:=f57_tab) rfl [] (by kernel_rfl) trivial⟩
  · unfold f57_G0 at h
    obtain ⟨xx,yy,rfl,rfl,h⟩:=getS_elim h
    have e:=(f57_eq xx.1 xx.2.1.1 xx.2.1.2.1 xx.2.1.2.2.1 xx.2.1.2.2.2.1 xx.2.1.2.2.2.2.1 xx.2.1.2.2.2.2.2.1 xx.2.1.2.2.2.2.2.2.1 xx.2.1.2.2.2.2.2.2.2.1 xx.2.1.2.2.2.2.2.2.2.2.1 xx.2.1.2.2.2.2.2.2.2.2.2.1 xx.2.1.2.2.2.2.2.2.2.2.2.2.1 xx.2.1.2.2.2.2.2.2.2.2.2.2.2.1 xx.2.1.2.2.2.2.2.2.2.2.2.2.2.2.1 xx.2.1.2.2.2.2.2.2.2.2.2.2.2.2.2.1 xx.2.1.2.2.2.2.2.2.2.2.2.2.2.2.2.2.1.1 xx.2.1.2.2.2.2.2.2.2.2.2.2.2.2.2.2.1.2 yy.1.1.1 yy.1.1.2 K).trans (show _ = funcT f57_C Tryd.f57 (mkR _ xx) (mkE _ yy) K by kernel_rfl)
    rw [← e]
    exact h.run
abbrev f57_G:=f57_G0
theorem f57_G_ok : FnOk Tryd.prog glob 57 f57_G:=f57_ok0
def f52_4_p4b0 (n6 : Int) (es7 : LL) (full8 : Bool) (n9 n10 : Int) (es11 : LL) (full12 : Bool) (N0 : Int→(LL)→Bool→Prop) (k0 : (LL)→Bool→Prop) (k1 : (LL)→Bool→Prop) : Prop:=bB (decide (n10 < n9)) ((0≤n10∧n10 < (es7.length : Int))∧cS (ext (List.getD es7 (Int.toNat n10) []) 0 15) fun s14 r13=>cI .i64 r13 fun n16 r15=>cI .i64 r15 fun n18 r17=>cI .i64 r17 fun n20 r19=>cI .i64 r19 fun n22 r21=>cI .i64 r21 fun n24 r23=>cI .i64 r23 fun n26 r25=>cI .i64 r25 fun n28 r27=>cI .i64 r27 fun n30 r29=>cI .i64 r29 fun n32 r31=>cI .i64 r31 fun n34 r33=>cI .i64 r33 fun n36 r35=>cS r35 fun s38 r37=>cI .i64 r37 fun n40 r39=>cL 3 r39 fun es42 full43 r41=>nilC r41 <| f57 n10 s14 n16 n18 n20 n22 n24 n26 n28 n30 n32 n34 n36 s38 n40 es42 full43 es11 full12 (fun b44 es45 full46=>bB b44 (k0 es45 full46) (N0 (w64 (n10 + 1)) es45 full46))) (k1 es11 full12)
def f52_4_p4 (n6 : Int) (es7 : LL) (full8 : Bool) (n9 : Int) (k0 : (LL)→Bool→Prop) (k1 : (LL)→Bool→Prop) : Int×(LL)×Bool→Prop:=LoopP fun x N=>f52_4_p4b0 n6 es7 full8 n9 x.1 x.2.1 x.2.2 (fun n10 es11 full12=>N (n10,es11,full12)) k0 k1
def f52_4_d (es1 : LL) (full2 : Bool) (n3 : Int) (es4 : LL) (full5 : Bool) (k0 : Int→(LL)→Bool→Prop) : Prop:=f52_4_p4 n3 es1 full2 (es1.length : Int) (fun es47 full48=>k0 n3 es47 full48) (fun es49 full50=>k0 0 es49 full50) (0,es4,full5)
structure f52_4 (es1 : LL) (full2 : Bool) (n3 : Int) (es4 : LL) (full5 : Bool) (k0 : Int→(LL)→Bool→Prop) : Prop where
  run : f52_4_d es1 full2 n3 es4 full5 k0
def f52_4_p4L : Told:=fun s K=>match s with
  | ⟨tm,hp⟩=>getS [.skip 1,.v (.one (.int .i64)),.v (.clo 57 [] [.ptr 0 0 0]),.skip 6,.v (.one (.sl 15)),.v (.one (.int .i64)),.v (.one (.int .i64)),.skip 10] [.box [.sl 2]] tm hp fun (xx : (Unit×(Int×((Unit×(Unit×Unit))×(Unit×((LL×Bool)×(Int×(Int×(Unit×Unit))))))))) (yy : (((LL×Bool)×Unit)×Unit))=>f52_4_p4 xx.2.1 xx.2.2.2.2.1.1 xx.2.2.2.2.1.2 xx.2.2.2.2.2.1 (fun es0_0 full0_1=>K .ret ⟨mkS 22 [(6,I xx.2.1)],[.box [.p (.sl 2 es0_0 full0_1)]]⟩) (fun es1_2 full1_3=>K (.exit 0) ⟨mkS 22 [],[.box [.p (.sl 2 es1_2 full1_3)]]⟩) (xx.2.2.2.2.2.2.1,yy.1.1.1,yy.1.1.2)
def f52_4_tab : List (Nat×Told):=[(4,f52_4_p4L)]
def f52_4_call : FuncId→List TV→List Entry→(TV→List Entry→Prop)→Prop:=addCall 57 f57_G (noCalls)
def f52_4_C : Ctx:=mkC [(4,[(0,[1,2,9,10,11]),(2,[6]),(3,[])])] [] [] [] [] false 1 true (lookL f52_4_tab) f52_4_call
def f52_4_p4_mk (n6 : Int) (es7 : LL) (full8 : Bool) (n9 : Int) (x : Int×(LL)×Bool) : St:=⟨mkS 22 [(1,I n6),(2,.w (.one (.clo 57 [] [.ptr 0 0 0]))),(9,.w (.one (.p (.sl 15 es7 full8)))),(10,I n9),(11,I x.1)],[.box [.p (.sl 2 x.2.1 x.2.2)]]⟩
theorem f52_4_p4e0 (n_14 : Int) (es_15 : LL) (full_16 : Bool) (n_17 n_18 : Int) (es_19 : LL) (full_20 : Bool) (N : St→Prop) (K : TExit→St→Prop) : (f52_4_p4b0 n_14 es_15 full_16 n_17 n_18 es_19 full_20 (fun z4 z5 z6=>N (f52_4_p4_mk n_14 es_15 full_16 n_17 (z4,z5,z6))) (fun es0_21 full0_22=>K .ret ⟨mkS 22 [(6,I n_14)],[.box [.p (.sl 2 es0_21 full0_22)]]⟩) (fun es1_23 full1_24=>K (.exit 0) ⟨mkS 22 [],[.box [.p (.sl 2 es1_23 full1_24)]]⟩)) = execT f52_4_C (bd Tryd.f52 0) (f52_4_p4_mk n_14 es_15 full_16 n_17 (n_18,es_19,full_20)) (loopK N (normK f52_4_C 4) fun e s=>K e (normOut f52_4_C 4 e s)):=by kernel_rfl
set_option maxHeartbeats 4000000 in
theorem f52_4_p4_ok : LoopOk f52_4_C (bd Tryd.f52 0):=by
  refine LoopOk.of f52_4_p4L (by kernel_rfl) fun σ K h=>?_
  have hk : loopKey (bd Tryd.f52 0) = 4:=by kernel_rfl
  rw [hk] at h ⊢
  generalize hs : normK f52_4_C 4 σ = s at h
  obtain ⟨tm,hp⟩:=s
  unfold f52_4_p4L at h
  dsimp only at h
  obtain ⟨xx,yy,rfl,rfl,h⟩:=getS_elim h
  refine iter_of (f52_4_p4_mk xx.2.1 xx.2.2.2.2.1.1 xx.2.2.2.2.1.2 xx.2.2.2.2.2.1) (fun x N h=>?_) rounds _ σ (hs.trans (by kernel_rfl)) (LoopP.run h)
  obtain ⟨y0,y1,y2⟩:=x
  rw [← f52_4_p4e0 xx.2.1 xx.2.2.2.2.1.1 xx.2.2.2.2.1.2 xx.2.2.2.2.2.1 y0 y1 y2 N K]
  exact h
def f52_4_G0 : List TV→List Entry→(TV→List Entry→Prop)→Prop:=fun tm hp K=>getS [.v (.one (.sl 15)),.v (.one (.int .i64)),.v (.clo 57 [] [.ptr 0 0 0])] [.box [.sl 2]] tm hp fun (xx : ((LL×Bool)×(Int×((Unit×(Unit×Unit))×Unit)))) (yy : (((LL×Bool)×Unit)×Unit))=>f52_4 xx.1.1 xx.1.2 xx.2.1 yy.1.1.1 yy.1.1.2 (fun n0_4 es0_5 full0_6=>K (I n0_4) [.box [.p (.sl 2 es0_5 full0_6)]])
theorem f52_4_eq (es_25 : LL) (full_26 : Bool) (n_27 : Int) (es_28 : LL) (full_29 : Bool) (K : TV→List Entry→Prop) : (f52_4_d es_25 full_26 n_27 es_28 full_29 (fun n0_4 es0_5 full0_6=>K (I n0_4) [.box [.p (.sl 2 es0_5 full0_6)]])) = funcT f52_4_C Tryd.f52 [.w (.one (.p (.sl 15 es_25 full_26))),I n_27,.w (.one (.clo 57 [] [.ptr 0 0 0]))] [.box [.p (.sl 2 es_28 full_29)]] K:=by kernel_rfl
set_option maxHeartbeats 4000000 in
theorem f52_4_ok0 : FnOk Tryd.prog glob 52 f52_4_G0:=by
  refine FnOk.of_text (C:=f52_4_C) tab_ok.ok (Known.add f57_G_ok (Known.none)) follows_ok (fn:=Tryd.f52) (by kernel_rfl) (by kernel_rfl) (by kernel_rfl) (fun c hc=>?_) fun tm hp K h=>?_
  · have e : c = bodyOf Tryd.f52:=Option.some.inj (hc.symm.trans (by kernel_rfl))
    subst e
    exact ⟨LoopsOk.of [bd Tryd.f52 0] (by kernel_rfl) ⟨f52_4_p4_ok,trivial⟩,TailsOk.of (tab:=f52_4_tab) rfl [] (by kernel_rfl) trivial⟩
  · unfold f52_4_G0 at h
    obtain ⟨xx,yy,rfl,rfl,h⟩:=getS_elim h
    have e:=(f52_4_eq xx.1.1 xx.1.2 xx.2.1 yy.1.1.1 yy.1.1.2 K).trans (show _ = funcT f52_4_C Tryd.f52 (mkR _ xx) (mkE _ yy) K by kernel_rfl)
    rw [← e]
    exact h.run
def f52_4_G : List TV→List Entry→(TV→List Entry→Prop)→Prop:=fun args H K=>bif isSig (sigOf args H) [5,2,100057,7,20,5] then f52_4_G0 args H K else f52_3_G args H K
theorem f52_4_G_ok : FnOk Tryd.prog glob 52 f52_4_G:=FnOk.or _ f52_4_ok0 f52_3_G_ok
def f59_d (es1 : LL) (full2 : Bool) (k0 : Bool→Prop) : Prop:=f83 es1 full2 (fun n3=>k0 (decide (n3≥0)))
structure f59 (es1 : LL) (full2 : Bool) (k0 : Bool→Prop) : Prop where
  run : f59_d es1 full2 k0
def f59_tab : List (Nat×Told):=[]
def f59_call : FuncId→List TV→List Entry→(TV→List Entry→Prop)→Prop:=addCall 83 f83_G (noCalls)
def f59_C : Ctx:=mkC [] [] [] [] [] false 0 true (lookL f59_tab) f59_call
def f59_G0 : List TV→List Entry→(TV→List Entry→Prop)→Prop:=fun tm hp K=>getS [.v (.one (.sl 3)),.v (.one (.fn 60))] [] tm hp fun (xx : ((LL×Bool)×(Unit×Unit))) (yy : Unit)=>f59 xx.1.1 xx.1.2 (fun b0_0=>K (B b0_0) [])
theorem f59_eq (es_1 : LL) (full_2 : Bool) (K : TV→List Entry→Prop) : (f59_d es_1 full_2 (fun b0_0=>K (B b0_0) [])) = funcT f59_C Tryd.f59 [.w (.one (.p (.sl 3 es_1 full_2))),.w (.one (.p (.c (.func (.func 60) #[] #[]))))] [] K:=by kernel_rfl
set_option maxHeartbeats 4000000 in
theorem f59_ok0 : FnOk Tryd.prog glob 59 f59_G0:=by
  refine FnOk.of_text (C:=f59_C) tab_ok.ok (Known.add f83_G_ok (Known.none)) follows_ok (fn:=Tryd.f59) (by kernel_rfl) (by kernel_rfl) (by kernel_rfl) (fun c hc=>?_) fun tm hp K h=>?_
  · have e : c = bodyOf Tryd.f59:=Option.some.inj (hc.symm.trans (by kernel_rfl))
    subst e
    exact ⟨LoopsOk.of [] (by kernel_rfl) trivial,TailsOk.of (tab:=f59_tab) rfl [] (by kernel_rfl) trivial⟩
  · unfold f59_G0 at h
    obtain ⟨xx,yy,rfl,rfl,h⟩:=getS_elim h
    have e:=(f59_eq xx.1.1 xx.1.2 K).trans (show _ = funcT f59_C Tryd.f59 (mkR _ xx) (mkE _ yy) K by kernel_rfl)
    rw [← e]
    exact h.run
abbrev f59_G:=f59_G0
theorem f59_G_ok : FnOk Tryd.prog glob 59 f59_G:=f59_ok0
def f58_d (n1 : Int) (s2 : ByteArray) (n3 n4 : Int) (n5 n6 : Int) (n7 n8 : Int) (n9 n10 : Int) (n11 n12 n13 : Int) (s14 : ByteArray) (n15 : Int) (es16 : LL) (full17 : Bool) (k0 : Bool→Prop) : Prop:=bB (decide (n15 < 1)) (k0 true) (bB (decide (n15 > 16)) (k0 true) (f59 es16 full17 k0))
structure f58 (n1 : Int) (s2 : ByteArray) (n3 n4 : Int) (n5 n6 : Int) (n7 n8 : Int) (n9 n10 : Int) (n11 n12 n13 : Int) (s14 : ByteArray) (n15 : Int) (es16 : LL) (full17 : Bool) (k0 : Bool→Prop) : Prop where
  run : f58_d n1 s2 n3 n4 n5 n6 n7 n8 n9 n10 n11 n12 n13 s14 n15 es16 full17 k0
def f58_tab : List (Nat×Told):=[]
def f58_call : FuncId→List TV→List Entry→(TV→List Entry→Prop)→Prop:=addCall 59 f59_G (noCalls)
def f58_C : Ctx:=mkC [] [] [] [] [] false 0 true (lookL f58_tab) f58_call
def f58_G0 : List TV→List Entry→(TV→List Entry→Prop)→Prop:=fun tm hp K=>getS [.v (.one (.int .i64)),.v (.pagg [.str,.int .i64,.int .i64,.int .i64,.int .i64,.int .i64,.int .i64,.int .i64,.int .i64,.int .i64,.int .i64,.int .i64,.str,.int .i64,.sl 3])] [] tm hp fun (xx : (Int×((ByteArray×(Int×(Int×(Int×(Int×(Int×(Int×(Int×(Int×(Int×(Int×(Int×(ByteArray×(Int×((LL×Bool)×Unit)))))))))))))))×Unit))) (yy : Unit)=>f58 xx.1 xx.2.1.1 xx.2.1.2.1 xx.2.1.2.2.1 xx.2.1.2.2.2.1 xx.2.1.2.2.2.2.1 xx.2.1.2.2.2.2.2.1 xx.2.1.2.2.2.2.2.2.1 xx.2.1.2.2.2.2.2.2.2.1 xx.2.1.2.2.2.2.2.2.2.2.1 xx.2.1.2.2.2.2.2.2.2.2.2.1 xx.2.1.2.2.2.2.2.2.2.2.2.2.1 xx.2.1.2.2.2.2.2.2.2.2.2.2.2.1 xx.2.1.2.2.2.2.2.2.2.2.2.2.2.2.1 xx.2.1.2.2.2.2.2.2.2.2.2.2.2.2.2.1 xx.2.1.2.2.2.2.2.2.2.2.2.2.2.2.2.2.1.1 xx.2.1.2.2.2.2.2.2.2.2.2.2.2.2.2.2.1.2 (fun b0_0=>K (B b0_0) [])
theorem f58_eq (n_1 : Int) (s_2 : ByteArray) (n_3 n_4 : Int) (n_5 n_6 : Int) (n_7 n_8 : Int) (n_9 n_10 : Int) (n_11 n_12 n_13 : Int) (s_14 : ByteArray) (n_15 : Int) (es_16 : LL) (full_17 : Bool) (K : TV→List Entry→Prop) : (f58_d n_1 s_2 n_3 n_4 n_5 n_6 n_7 n_8 n_9 n_10 n_11 n_12 n_13 s_14 n_15 es_16 full_17 (fun b0_0=>K (B b0_0) [])) = funcT f58_C Tryd.f58 [I n_1,.w (.pagg [pS s_2,pI n_3,pI n_4,pI n_5,pI n_6,pI n_7,pI n_8,pI n_9,pI n_10,pI n_11,pI n_12,pI n_13,pS s_14,pI n_15,.sl 3 es_16 full_17])] [] K:=by kernel_rfl
set_option maxHeartbeats 4000000 in
theorem f58_ok0 : FnOk Tryd.prog glob 58 f58_G0:=by
  refine FnOk.of_text (C:=f58_C) tab_ok.ok (Known.add f59_G_ok (Known.none)) follows_ok (fn:=Tryd.f58) (by kernel_rfl) (by kernel_rfl) (by kernel_rfl) (fun c hc=>?_) fun tm hp K h=>?_
  · have e : c = bodyOf Tryd.f58:=Option.some.inj (hc.symm.trans (by kernel_rfl))
    subst e
    exact ⟨LoopsOk.of [] (by kernel_rfl) trivial,TailsOk.of (tab:=f58_tab) rfl [] (by kernel_rfl) trivial⟩
  · unfold f58_G0 at h
    obtain ⟨xx,yy,rfl,rfl,h⟩:=getS_elim h
    have e:=(f58_eq xx.1 xx.2.1.1 xx.2.1.2.1 xx.2.1.2.2.1 xx.2.1.2.2.2.1 xx.2.1.2.2.2.2.1 xx.2.1.2.2.2.2.2.1 xx.2.1.2.2.2.2.2.2.1 xx.2.1.2.2.2.2.2.2.2.1 xx.2.1.2.2.2.2.2.2.2.2.1 xx.2.1.2.2.2.2.2.2.2.2.2.1 xx.2.1.2.2.2.2.2.2.2.2.2.2.1 xx.2.1.2.2.2.2.2.2.2.2.2.2.2.1 xx.2.1.2.2.2.2.2.2.2.2.2.2.2.2.1 xx.2.1.2.2.2.2.2.2.2.2.2.2.2.2.2.1 xx.2.1.2.2.2.2.2.2.2.2.2.2.2.2.2.2.1.1 xx.2.1.2.2.2.2.2.2.2.2.2.2.2.2.2.2.1.2 K).trans (show _ = funcT f58_C Tryd.f58 (mkR _ xx) (mkE _ yy) K by kernel_rfl)
    rw [← e]
    exact h.run
abbrev f58_G:=f58_G0
theorem f58_G_ok : FnOk Tryd.prog glob 58 f58_G:=f58_ok0
def f52_5_p4b0 (n4 : Int) (es5 : LL) (full6 : Bool) (n7 n8 : Int) (N0 : Int→Prop) (k0 : Unit→Prop) (k1 : Unit→Prop) : Prop:=bB (decide (n8 < n7)) ((0≤n8∧n8 < (es5.length : Int))∧cS (ext (List.getD es5 (Int.toNat n8) []) 0 15) fun s10 r9=>cI .i64 r9 fun n12 r11=>cI .i64 r11 fun n14 r13=>cI .i64 r13 fun n16 r15=>cI .i64 r15 fun n18 r17=>cI .i64 r17 fun n20 r19=>cI .i64 r19 fun n22 r21=>cI .i64 r21 fun n24 r23=>cI .i64 r23 fun n26 r25=>cI .i64 r25 fun n28 r27=>cI .i64 r27 fun n30 r29=>cI .i64 r29 fun n32 r31=>cS r31 fun s34 r33=>cI .i64 r33 fun n36 r35=>cL 3 r35 fun es38 full39 r37=>nilC r37 <| f58 n8 s10 n12 n14 n16 n18 n20 n22 n24 n26 n28 n30 n32 s34 n36 es38 full39 (fun b40=>bB b40 (k0 ()) (N0 (w64 (n8 + 1))))) (k1 ())
def f52_5_p4 (n4 : Int) (es5 : LL) (full6 : Bool) (n7 : Int) (k0 : Unit→Prop) (k1 : Unit→Prop) : Int→Prop:=LoopP fun x N=>f52_5_p4b0 n4 es5 full6 n7 x (fun n8=>N n8) k0 k1
def f52_5_d (es1 : LL) (full2 : Bool) (n3 : Int) (k0 : Int→Prop) : Prop:=f52_5_p4 n3 es1 full2 (es1.length : Int) (fun (_ : Unit)=>k0 n3) (fun (_ : Unit)=>k0 0) 0
structure f52_5 (es1 : LL) (full2 : Bool) (n3 : Int) (k0 : Int→Prop) : Prop where
  run : f52_5_d es1 full2 n3 k0
def f52_5_p4L : Told:=fun s K=>match s with
  | ⟨tm,hp⟩=>getS [.skip 1,.v (.one (.int .i64)),.v (.one (.fn 58)),.skip 6,.v (.one (.sl 15)),.v (.one (.int .i64)),.v (.one (.int .i64)),.skip 10] [] tm hp fun (xx : (Unit×(Int×(Unit×(Unit×((LL×Bool)×(Int×(Int×(Unit×Unit))))))))) (yy : Unit)=>f52_5_p4 xx.2.1 xx.2.2.2.2.1.1 xx.2.2.2.2.1.2 xx.2.2.2.2.2.1 (fun (_ : Unit)=>K .ret ⟨mkS 22 [(6,I xx.2.1)],[]⟩) (fun (_ : Unit)=>K (.exit 0) ⟨mkS 22 [],[]⟩) xx.2.2.2.2.2.2.1
def f52_5_tab : List (Nat×Told):=[(4,f52_5_p4L)]
def f52_5_call : FuncId→List TV→List Entry→(TV→List Entry→Prop)→Prop:=addCall 58 f58_G (noCalls)
def f52_5_C : Ctx:=mkC [(4,[(0,[1,2,9,10,11]),(2,[6]),(3,[])])] [] [] [] [] false 0 true (lookL f52_5_tab) f52_5_call
def f52_5_p4_mk (n4 : Int) (es5 : LL) (full6 : Bool) (n7 x : Int) : St:=⟨mkS 22 [(1,I n4),(2,.w (.one (.p (.c (.func (.func 58) #[] #[]))))),(9,.w (.one (.p (.sl 15 es5 full6)))),(10,I n7),(11,I x)],[]⟩
theorem f52_5_p4e0 (n_6 : Int) (es_7 : LL) (full_8 : Bool) (n_9 n_10 : Int) (N : St→Prop) (K : TExit→St→Prop) : (f52_5_p4b0 n_6 es_7 full_8 n_9 n_10 (fun z4=>N (f52_5_p4_mk n_6 es_7 full_8 n_9 z4)) (fun (_ : Unit)=>K .ret ⟨mkS 22 [(6,I n_6)],[]⟩) (fun (_ : Unit)=>K (.exit 0) ⟨mkS 22 [],[]⟩)) = execT f52_5_C (bd Tryd.f52 0) (f52_5_p4_mk n_6 es_7 full_8 n_9 n_10) (loopK N (normK f52_5_C 4) fun e s=>K e (normOut f52_5_C 4 e s)):=by kernel_rfl
set_option maxHeartbeats 4000000 in
theorem f52_5_p4_ok : LoopOk f52_5_C (bd Tryd.f52 0):=by
  refine LoopOk.of f52_5_p4L (by kernel_rfl) fun σ K h=>?_
  have hk : loopKey (bd Tryd.f52 0) = 4:=by kernel_rfl
  rw [hk] at h ⊢
  generalize hs : normK f52_5_C 4 σ = s at h
  obtain ⟨tm,hp⟩:=s
  unfold f52_5_p4L at h
  dsimp only at h
  obtain ⟨xx,yy,rfl,rfl,h⟩:=getS_elim h
  refine iter_of (f52_5_p4_mk xx.2.1 xx.2.2.2.2.1.1 xx.2.2.2.2.1.2 xx.2.2.2.2.2.1) (fun x N h=>?_) rounds _ σ (hs.trans (by kernel_rfl)) (LoopP.run h)
  rw [← f52_5_p4e0 xx.2.1 xx.2.2.2.2.1.1 xx.2.2.2.2.1.2 xx.2.2.2.2.2.1 x N K]
  exact h
def f52_5_G0 : List TV→List Entry→(TV→List Entry→Prop)→Prop:=fun tm hp K=>getS [.v (.one (.sl 15)),.v (.one (.int .i64)),.v (.one (.fn 58))] [] tm hp fun (xx : ((LL×Bool)×(Int×(Unit×Unit)))) (yy : Unit)=>f52_5 xx.1.1 xx.1.2 xx.2.1 (fun n0_0=>K (I n0_0) [])
theorem f52_5_eq (es_11 : LL) (full_12 : Bool) (n_13 : Int) (K : TV→List Entry→Prop) : (f52_5_d es_11 full_12 n_13 (fun n0_0=>K (I n0_0) [])) = funcT f52_5_C Tryd.f52 [.w (.one (.p (.sl 15 es_11 full_12))),I n_13,.w (.one (.p (.c (.func (.func 58) #[] #[]))))] [] K:=by kernel_rfl
set_option maxHeartbeats 4000000 in
theorem f52_5_ok0 : FnOk Tryd.prog glob 52 f52_5_G0:=by
  refine FnOk.of_text (C:=f52_5_C) tab_ok.ok (Known.add f58_G_ok (Known.none)) follows_ok (fn:=Tryd.f52) (by kernel_rfl) (by kernel_rfl) (by kernel_rfl) (fun c hc=>?_) fun tm hp K h=>?_
  · have e : c = bodyOf Tryd.f52:=Option.some.inj (hc.symm.trans (by kernel_rfl))
    subst e
    exact ⟨LoopsOk.of [bd Tryd.f52 0] (by kernel_rfl) ⟨f52_5_p4_ok,trivial⟩,TailsOk.of (tab:=f52_5_tab) rfl [] (by kernel_rfl) trivial⟩
  · unfold f52_5_G0 at h
    obtain ⟨xx,yy,rfl,rfl,h⟩:=getS_elim h
    have e:=(f52_5_eq xx.1.1 xx.1.2 xx.2.1 K).trans (show _ = funcT f52_5_C Tryd.f52 (mkR _ xx) (mkE _ yy) K by kernel_rfl)
    rw [← e]
    exact h.run
def f52_5_G : List TV→List Entry→(TV→List Entry→Prop)→Prop:=fun args H K=>bif isSig (sigOf args H) [5,2,1058,7] then f52_5_G0 args H K else f52_4_G args H K
theorem f52_5_G_ok : FnOk Tryd.prog glob 52 f52_5_G:=FnOk.or _ f52_5_ok0 f52_4_G_ok
def f61_p4b0 (n18 : Int) (s19 : ByteArray) (n20 n21 : Int) (n22 n23 : Int) (n24 n25 : Int) (n26 n27 : Int) (n28 n29 n30 : Int) (s31 : ByteArray) (n32 : Int) (es33 : LL) (full34 : Bool) (N0 : Int→Prop) (k0 : Bool→Prop) (k1 : Unit→Prop) : Prop:=bB (decide (n18 < (es33.length : Int))) ((0≤(w64 (n18 - 1))∧(w64 (n18 - 1)) < (es33.length : Int))∧oI .i64 (ext (List.getD es33 (Int.toNat (w64 (n18 - 1))) []) 0 1) fun n35=>(0≤n18∧n18 < (es33.length : Int))∧oI .i64 (ext (List.getD es33 (Int.toNat n18) []) 0 1) fun n36=>bB (decide (n35≥n36)) (k0 true) (N0 (w64 (n18 + 1)))) (k1 ())
def f61_p4 (s19 : ByteArray) (n20 n21 : Int) (n22 n23 : Int) (n24 n25 : Int) (n26 n27 : Int) (n28 n29 n30 : Int) (s31 : ByteArray) (n32 : Int) (es33 : LL) (full34 : Bool) (k0 : Bool→Prop) (k1 : Unit→Prop) : Int→Prop:=LoopP fun x N=>f61_p4b0 x s19 n20 n21 n22 n23 n24 n25 n26 n27 n28 n29 n30 s31 n32 es33 full34 (fun n18=>N n18) k0 k1
def f61_d (n1 : Int) (s2 : ByteArray) (n3 n4 : Int) (n5 n6 : Int) (n7 n8 : Int) (n9 n10 : Int) (n11 n12 n13 : Int) (s14 : ByteArray) (n15 : Int) (es16 : LL) (full17 : Bool) (k0 : Bool→Prop) : Prop:=f61_p4 s2 n3 n4 n5 n6 n7 n8 n9 n10 n11 n12 n13 s14 n15 es16 full17 k0 (fun (_ : Unit)=>k0 false) 1
structure f61 (n1 : Int) (s2 : ByteArray) (n3 n4 : Int) (n5 n6 : Int) (n7 n8 : Int) (n9 n10 : Int) (n11 n12 n13 : Int) (s14 : ByteArray) (n15 : Int) (es16 : LL) (full17 : Bool) (k0 : Bool→Prop) : Prop where
  run : f61_d n1 s2 n3 n4 n5 n6 n7 n8 n9 n10 n11 n12 n13 s14 n15 es16 full17 k0
def f61_p4L : Told:=fun s K=>match s with
  | ⟨tm,hp⟩=>getS [.skip 3,.v (.one (.ptr 0 0 0)),.skip 1,.v (.one (.int .i64)),.skip 21] [.box [.str,.int .i64,.int .i64,.int .i64,.int .i64,.int .i64,.int .i64,.int .i64,.int .i64,.int .i64,.int .i64,.int .i64,.str,.int .i64,.sl 3]] tm hp fun (xx : (Unit×(Unit×(Unit×(Int×(Unit×Unit)))))) (yy : ((ByteArray×(Int×(Int×(Int×(Int×(Int×(Int×(Int×(Int×(Int×(Int×(Int×(ByteArray×(Int×((LL×Bool)×Unit)))))))))))))))×Unit))=>f61_p4 yy.1.1 yy.1.2.1 yy.1.2.2.1 yy.1.2.2.2.1 yy.1.2.2.2.2.1 yy.1.2.2.2.2.2.1 yy.1.2.2.2.2.2.2.1 yy.1.2.2.2.2.2.2.2.1 yy.1.2.2.2.2.2.2.2.2.1 yy.1.2.2.2.2.2.2.2.2.2.1 yy.1.2.2.2.2.2.2.2.2.2.2.1 yy.1.2.2.2.2.2.2.2.2.2.2.2.1 yy.1.2.2.2.2.2.2.2.2.2.2.2.2.1 yy.1.2.2.2.2.2.2.2.2.2.2.2.2.2.1 yy.1.2.2.2.2.2.2.2.2.2.2.2.2.2.2.1.1 yy.1.2.2.2.2.2.2.2.2.2.2.2.2.2.2.1.2 (fun b0_0=>K .ret ⟨mkS 27 [(4,B b0_0)],[]⟩) (fun (_ : Unit)=>K (.exit 0) ⟨mkS 27 [],[]⟩) xx.2.2.2.1
def f61_tab : List (Nat×Told):=[(4,f61_p4L)]
def f61_call : FuncId→List TV→List Entry→(TV→List Entry→Prop)→Prop:=noCalls
def f61_C : Ctx:=mkC [(4,[(0,[3,5]),(2,[4]),(3,[])])] [] [] [] [] false 0 true (lookL f61_tab) f61_call
def f61_p4_mk (s19 : ByteArray) (n20 n21 : Int) (n22 n23 : Int) (n24 n25 : Int) (n26 n27 : Int) (n28 n29 n30 : Int) (s31 : ByteArray) (n32 : Int) (es33 : LL) (full34 : Bool) (x : Int) : St:=⟨mkS 27 [(3,.w (.one (.ptr 0 0 0))),(5,I x)],[.box [.p (pS s19),.p (pI n20),.p (pI n21),.p (pI n22),.p (pI n23),.p (pI n24),.p (pI n25),.p (pI n26),.p (pI n27),.p (pI n28),.p (pI n29),.p (pI n30),.p (pS s31),.p (pI n32),.p (.sl 3 es33 full34)]]⟩
theorem f61_p4e0 (n_19 : Int) (s_20 : ByteArray) (n_21 n_22 : Int) (n_23 n_24 : Int) (n_25 n_26 : Int) (n_27 n_28 : Int) (n_29 n_30 n_31 : Int) (s_32 : ByteArray) (n_33 : Int) (es_34 : LL) (full_35 : Bool) (N : St→Prop) (K : TExit→St→Prop) : (f61_p4b0 n_19 s_20 n_21 n_22 n_23 n_24 n_25 n_26 n_27 n_28 n_29 n_30 n_31 s_32 n_33 es_34 full_35 (fun z0=>N (f61_p4_mk s_20 n_21 n_22 n_23 n_24 n_25 n_26 n_27 n_28 n_29 n_30 n_31 s_32 n_33 es_34 full_35 z0)) (fun b0_36=>K .ret ⟨mkS 27 [(4,B b0_36)],[]⟩) (fun (_ : Unit)=>K (.exit 0) ⟨mkS 27 [],[]⟩)) = execT f61_C (bd Tryd.f61 0) (f61_p4_mk s_20 n_21 n_22 n_23 n_24 n_25 n_26 n_27 n_28 n_29 n_30 n_31 s_32 n_33 es_34 full_35 n_19) (loopK N (normK f61_C 4) fun e s=>K e (normOut f61_C 4 e s)):=by kernel_rfl
set_option maxHeartbeats 4000000 in
theorem f61_p4_ok : LoopOk f61_C (bd Tryd.f61 0):=by
  refine LoopOk.of f61_p4L (by kernel_rfl) fun σ K h=>?_
  have hk : loopKey (bd Tryd.f61 0) = 4:=by kernel_rfl
  rw [hk] at h ⊢
  generalize hs : normK f61_C 4 σ = s at h
  obtain ⟨tm,hp⟩:=s
  unfold f61_p4L at h
  dsimp only at h
  obtain ⟨xx,yy,rfl,rfl,h⟩:=getS_elim h
  refine iter_of (f61_p4_mk yy.1.1 yy.1.2.1 yy.1.2.2.1 yy.1.2.2.2.1 yy.1.2.2.2.2.1 yy.1.2.2.2.2.2.1 yy.1.2.2.2.2.2.2.1 yy.1.2.2.2.2.2.2.2.1 yy.1.2.2.2.2.2.2.2.2.1 yy.1.2.2.2.2.2.2.2.2.2.1 yy.1.2.2.2.2.2.2.2.2.2.2.1 yy.1.2.2.2.2.2.2.2.2.2.2.2.1 yy.1.2.2.2.2.2.2.2.2.2.2.2.2.1 yy.1.2.2.2.2.2.2.2.2.2.2.2.2.2.1 yy.1.2.2.2.2.2.2.2.2.2.2.2.2.2.2.1.1 yy.1.2.2.2.2.2.2.2.2.2.2.2.2.2.2.1.2) (fun x N h=>?_) rounds _ σ (hs.trans (by kernel_rfl)) (LoopP.run h)
  rw [← f61_p4e0 x yy.1.1 yy.1.2.1 yy.1.2.2.1 yy.1.2.2.2.1 yy.1.2.2.2.2.1 yy.1.2.2.2.2.2.1 yy.1.2.2.2.2.2.2.1 yy.1.2.2.2.2.2.2.2.1 yy.1.2.2.2.2.2.2.2.2.1 yy.1.2.2.2.2.2.2.2.2.2.1 yy.1.2.2.2.2.2.2.2.2.2.2.1 yy.1.2.2.2.2.2.2.2.2.2.2.2.1 yy.1.2.2.2.2.2.2.2.2.2.2.2.2.1 yy.1.2.2.2.2.2.2.2.2.2.2.2.2.2.1 yy.1.2.2.2.2.2.2.2.2.2.2.2.2.2.2.1.1 yy.1.2.2.2.2.2.2.2.2.2.2.2.2.2.2.1.2 N K]
  exact h
def f61_G0 : List TV→List Entry→(TV→List Entry→Prop)→Prop:=fun tm hp K=>getS [.v (.one (.int .i64)),.v (.pagg [.str,.int .i64,.int .i64,.int .i64,.int .i64,.int .i64,.int .i64,.int .i64,.int .i64,.int .i64,.int .i64,.int .i64,.str,.int .i64,.sl 3])] [] tm hp fun (xx : (Int×((ByteArray×(Int×(Int×(Int×(Int×(Int×(Int×(Int×(Int×(Int×(Int×(Int×(ByteArray×(Int×((LL×Bool)×Unit)))))))))))))))×Unit))) (yy : Unit)=>f61 xx.1 xx.2.1.1 xx.2.1.2.1 xx.2.1.2.2.1 xx.2.1.2.2.2.1 xx.2.1.2.2.2.2.1 xx.2.1.2.2.2.2.2.1 xx.2.1.2.2.2.2.2.2.1 xx.2.1.2.2.2.2.2.2.2.1 xx.2.1.2.2.2.2.2.2.2.2.1 xx.2.1.2.2.2.2.2.2.2.2.2.1 xx.2.1.2.2.2.2.2.2.2.2.2.2.1 xx.2.1.2.2.2.2.2.2.2.2.2.2.2.1 xx.2.1.2.2.2.2.2.2.2.2.2.2.2.2.1 xx.2.1.2.2.2.2.2.2.2.2.2.2.2.2.2.1 xx.2.1.2.2.2.2.2.2.2.2.2.2.2.2.2.2.1.1 xx.2.1.2.2.2.2.2.2.2.2.2.2.2.2.2.2.1.2 (fun b0_1=>K (B b0_1) [])
theorem f61_eq (n_37 : Int) (s_38 : ByteArray) (n_39 n_40 : Int) (n_41 n_42 : Int) (n_43 n_44 : Int) (n_45 n_46 : Int) (n_47 n_48 n_49 : Int) (s_50 : ByteArray) (n_51 : Int) (es_52 : LL) (full_53 : Bool) (K : TV→List Entry→Prop) : (f61_d n_37 s_38 n_39 n_40 n_41 n_42 n_43 n_44 n_45 n_46 n_47 n_48 n_49 s_50 n_51 es_52 full_53 (fun b0_1=>K (B b0_1) [])) = funcT f61_C Tryd.f61 [I n_37,.w (.pagg [pS s_38,pI n_39,pI n_40,pI n_41,pI n_42,pI n_43,pI n_44,pI n_45,pI n_46,pI n_47,pI n_48,pI n_49,pS s_50,pI n_51,.sl 3 es_52 full_53])] [] K:=by kernel_rfl
set_option maxHeartbeats 4000000 in
theorem f61_ok0 : FnOk Tryd.prog glob 61 f61_G0:=by
  refine FnOk.of_text (C:=f61_C) tab_ok.ok (Known.none) follows_ok (fn:=Tryd.f61) (by kernel_rfl) (by kernel_rfl) (by kernel_rfl) (fun c hc=>?_) fun tm hp K h=>?_
  · have e : c = bodyOf Tryd.f61:=Option.some.inj (hc.symm.trans (by kernel_rfl))
    subst e
    exact ⟨LoopsOk.of [bd Tryd.f61 0] (by kernel_rfl) ⟨f61_p4_ok,trivial⟩,TailsOk.of (tab:=f61_tab) rfl [] (by kernel_rfl) trivial⟩
  · unfold f61_G0 at h
    obtain ⟨xx,yy,rfl,rfl,h⟩:=getS_elim h
    have e:=(f61_eq xx.1 xx.2.1.1 xx.2.1.2.1 xx.2.1.2.2.1 xx.2.1.2.2.2.1 xx.2.1.2.2.2.2.1 xx.2.1.2.2.2.2.2.1 xx.2.1.2.2.2.2.2.2.1 xx.2.1.2.2.2.2.2.2.2.1 xx.2.1.2.2.2.2.2.2.2.2.1 xx.2.1.2.2.2.2.2.2.2.2.2.1 xx.2.1.2.2.2.2.2.2.2.2.2.2.1 xx.2.1.2.2.2.2.2.2.2.2.2.2.2.1 xx.2.1.2.2.2.2.2.2.2.2.2.2.2.2.1 xx.2.1.2.2.2.2.2.2.2.2.2.2.2.2.2.1 xx.2.1.2.2.2.2.2.2.2.2.2.2.2.2.2.2.1.1 xx.2.1.2.2.2.2.2.2.2.2.2.2.2.2.2.2.1.2 K).trans (show _ = funcT f61_C Tryd.f61 (mkR _ xx) (mkE _ yy) K by kernel_rfl)
    rw [← e]
    exact h.run
abbrev f61_G:=f61_G0
theorem f61_G_ok : FnOk Tryd.prog glob 61 f61_G:=f61_ok0
def f52_6_p4b0 (n4 : Int) (es5 : LL) (full6 : Bool) (n7 n8 : Int) (N0 : Int→Prop) (k0 : Unit→Prop) (k1 : Unit→Prop) : Prop:=bB (decide (n8 < n7)) ((0≤n8∧n8 < (es5.length : Int))∧cS (ext (List.getD es5 (Int.toNat n8) []) 0 15) fun s10 r9=>cI .i64 r9 fun n12 r11=>cI .i64 r11 fun n14 r13=>cI .i64 r13 fun n16 r15=>cI .i64 r15 fun n18 r17=>cI .i64 r17 fun n20 r19=>cI .i64 r19 fun n22 r21=>cI .i64 r21 fun n24 r23=>cI .i64 r23 fun n26 r25=>cI .i64 r25 fun n28 r27=>cI .i64 r27 fun n30 r29=>cI .i64 r29 fun n32 r31=>cS r31 fun s34 r33=>cI .i64 r33 fun n36 r35=>cL 3 r35 fun es38 full39 r37=>nilC r37 <| f61 n8 s10 n12 n14 n16 n18 n20 n22 n24 n26 n28 n30 n32 s34 n36 es38 full39 (fun b40=>bB b40 (k0 ()) (N0 (w64 (n8 + 1))))) (k1 ())
def f52_6_p4 (n4 : Int) (es5 : LL) (full6 : Bool) (n7 : Int) (k0 : Unit→Prop) (k1 : Unit→Prop) : Int→Prop:=LoopP fun x N=>f52_6_p4b0 n4 es5 full6 n7 x (fun n8=>N n8) k0 k1
def f52_6_d (es1 : LL) (full2 : Bool) (n3 : Int) (k0 : Int→Prop) : Prop:=f52_6_p4 n3 es1 full2 (es1.length : Int) (fun (_ : Unit)=>k0 n3) (fun (_ : Unit)=>k0 0) 0
structure f52_6 (es1 : LL) (full2 : Bool) (n3 : Int) (k0 : Int→Prop) : Prop where
  run : f52_6_d es1 full2 n3 k0
def f52_6_p4L : Told:=fun s K=>match s with
  | ⟨tm,hp⟩=>getS [.skip 1,.v (.one (.int .i64)),.v (.one (.fn 61)),.skip 6,.v (.one (.sl 15)),.v (.one (.int .i64)),.v (.one (.int .i64)),.skip 10] [] tm hp fun (xx : (Unit×(Int×(Unit×(Unit×((LL×Bool)×(Int×(Int×(Unit×Unit))))))))) (yy : Unit)=>f52_6_p4 xx.2.1 xx.2.2.2.2.1.1 xx.2.2.2.2.1.2 xx.2.2.2.2.2.1 (fun (_ : Unit)=>K .ret ⟨mkS 22 [(6,I xx.2.1)],[]⟩) (fun (_ : Unit)=>K (.exit 0) ⟨mkS 22 [],[]⟩) xx.2.2.2.2.2.2.1
def f52_6_tab : List (Nat×Told):=[(4,f52_6_p4L)]
def f52_6_call : FuncId→List TV→List Entry→(TV→List Entry→Prop)→Prop:=addCall 61 f61_G (noCalls)
def f52_6_C : Ctx:=mkC [(4,[(0,[1,2,9,10,11]),(2,[6]),(3,[])])] [] [] [] [] false 0 true (lookL f52_6_tab) f52_6_call
def f52_6_p4_mk (n4 : Int) (es5 : LL) (full6 : Bool) (n7 x : Int) : St:=⟨mkS 22 [(1,I n4),(2,.w (.one (.p (.c (.func (.func 61) #[] #[]))))),(9,.w (.one (.p (.sl 15 es5 full6)))),(10,I n7),(11,I x)],[]⟩
theorem f52_6_p4e0 (n_6 : Int) (es_7 : LL) (full_8 : Bool) (n_9 n_10 : Int) (N : St→Prop) (K : TExit→St→Prop) : (f52_6_p4b0 n_6 es_7 full_8 n_9 n_10 (fun z4=>N (f52_6_p4_mk n_6 es_7 full_8 n_9 z4)) (fun (_ : Unit)=>K .ret ⟨mkS 22 [(6,I n_6)],[]⟩) (fun (_ : Unit)=>K (.exit 0) ⟨mkS 22 [],[]⟩)) = execT f52_6_C (bd Tryd.f52 0) (f52_6_p4_mk n_6 es_7 full_8 n_9 n_10) (loopK N (normK f52_6_C 4) fun e s=>K e (normOut f52_6_C 4 e s)):=by kernel_rfl
set_option maxHeartbeats 4000000 in
theorem f52_6_p4_ok : LoopOk f52_6_C (bd Tryd.f52 0):=by
  refine LoopOk.of f52_6_p4L (by kernel_rfl) fun σ K h=>?_
  have hk : loopKey (bd Tryd.f52 0) = 4:=by kernel_rfl
  rw [hk] at h ⊢
  generalize hs : normK f52_6_C 4 σ = s at h
  obtain ⟨tm,hp⟩:=s
  unfold f52_6_p4L at h
  dsimp only at h
  obtain ⟨xx,yy,rfl,rfl,h⟩:=getS_elim h
  refine iter_of (f52_6_p4_mk xx.2.1 xx.2.2.2.2.1.1 xx.2.2.2.2.1.2 xx.2.2.2.2.2.1) (fun x N h=>?_) rounds _ σ (hs.trans (by kernel_rfl)) (LoopP.run h)
  rw [← f52_6_p4e0 xx.2.1 xx.2.2.2.2.1.1 xx.2.2.2.2.1.2 xx.2.2.2.2.2.1 x N K]
  exact h
def f52_6_G0 : List TV→List Entry→(TV→List Entry→Prop)→Prop:=fun tm hp K=>getS [.v (.one (.sl 15)),.v (.one (.int .i64)),.v (.one (.fn 61))] [] tm hp fun (xx : ((LL×Bool)×(Int×(Unit×Unit)))) (yy : Unit)=>f52_6 xx.1.1 xx.1.2 xx.2.1 (fun n0_0=>K (I n0_0) [])
theorem f52_6_eq (es_11 : LL) (full_12 : Bool) (n_13 : Int) (K : TV→List Entry→Prop) : (f52_6_d es_11 full_12 n_13 (fun n0_0=>K (I n0_0) [])) = funcT f52_6_C Tryd.f52 [.w (.one (.p (.sl 15 es_11 full_12))),I n_13,.w (.one (.p (.c (.func (.func 61) #[] #[]))))] [] K:=by kernel_rfl
set_option maxHeartbeats 4000000 in
theorem f52_6_ok0 : FnOk Tryd.prog glob 52 f52_6_G0:=by
  refine FnOk.of_text (C:=f52_6_C) tab_ok.ok (Known.add f61_G_ok (Known.none)) follows_ok (fn:=Tryd.f52) (by kernel_rfl) (by kernel_rfl) (by kernel_rfl) (fun c hc=>?_) fun tm hp K h=>?_
  · have e : c = bodyOf Tryd.f52:=Option.some.inj (hc.symm.trans (by kernel_rfl))
    subst e
    exact ⟨LoopsOk.of [bd Tryd.f52 0] (by kernel_rfl) ⟨f52_6_p4_ok,trivial⟩,TailsOk.of (tab:=f52_6_tab) rfl [] (by kernel_rfl) trivial⟩
  · unfold f52_6_G0 at h
    obtain ⟨xx,yy,rfl,rfl,h⟩:=getS_elim h
    have e:=(f52_6_eq xx.1.1 xx.1.2 xx.2.1 K).trans (show _ = funcT f52_6_C Tryd.f52 (mkR _ xx) (mkE _ yy) K by kernel_rfl)
    rw [← e]
    exact h.run
def f52_6_G : List TV→List Entry→(TV→List Entry→Prop)→Prop:=fun args H K=>bif isSig (sigOf args H) [5,2,1061,7] then f52_6_G0 args H K else f52_5_G args H K
theorem f52_6_G_ok : FnOk Tryd.prog glob 52 f52_6_G:=FnOk.or _ f52_6_ok0 f52_5_G_ok
def f64_d (n1 n2 : Int) (k0 : Bool→Prop) : Prop:=bB (n1 == 0) (k0 ((n1 == 0) && ((n2 == 0) && true))) (bB (n1 == 1) (bB (decide (((-1000000000000) : Int)≤n2)) (k0 (decide (n2≤1000000000000))) (k0 false)) (bB (n1 == 2) (bB (n2 == 0) (k0 true) (k0 (n2 == 1))) (bB (n1 == 3) (bB (decide ((1 : Int)≤n2)) (k0 (decide (n2≤16))) (k0 false)) (k0 false))))
structure f64 (n1 n2 : Int) (k0 : Bool→Prop) : Prop where
  run : f64_d n1 n2 k0
def f64_tab : List (Nat×Told):=[]
def f64_call : FuncId→List TV→List Entry→(TV→List Entry→Prop)→Prop:=noCalls
def f64_C : Ctx:=mkC [] [] [] [] [] false 0 true (lookL f64_tab) f64_call
def f64_G0 : List TV→List Entry→(TV→List Entry→Prop)→Prop:=fun tm hp K=>getS [.v (.pagg [.int .i64,.int .i64])] [] tm hp fun (xx : ((Int×(Int×Unit))×Unit)) (yy : Unit)=>f64 xx.1.1 xx.1.2.1 (fun b0_0=>K (B b0_0) [])
theorem f64_eq (n_1 n_2 : Int) (K : TV→List Entry→Prop) : (f64_d n_1 n_2 (fun b0_0=>K (B b0_0) [])) = funcT f64_C Tryd.f64 [.w (.pagg [pI n_1,pI n_2])] [] K:=by kernel_rfl
set_option maxHeartbeats 4000000 in
theorem f64_ok0 : FnOk Tryd.prog glob 64 f64_G0:=by
  refine FnOk.of_text (C:=f64_C) tab_ok.ok (Known.none) follows_ok (fn:=Tryd.f64) (by kernel_rfl) (by kernel_rfl) (by kernel_rfl) (fun c hc=>?_) fun tm hp K h=>?_
  · have e : c = bodyOf Tryd.f64:=Option.some.inj (hc.symm.trans (by kernel_rfl))
    subst e
    exact ⟨LoopsOk.of [] (by kernel_rfl) trivial,TailsOk.of (tab:=f64_tab) rfl [] (by kernel_rfl) trivial⟩
  · unfold f64_G0 at h
    obtain ⟨xx,yy,rfl,rfl,h⟩:=getS_elim h
    have e:=(f64_eq xx.1.1 xx.1.2.1 K).trans (show _ = funcT f64_C Tryd.f64 (mkR _ xx) (mkE _ yy) K by kernel_rfl)
    rw [← e]
    exact h.run
abbrev f64_G:=f64_G0
theorem f64_G_ok : FnOk Tryd.prog glob 64 f64_G:=f64_ok0
def f63_d (n1 n2 n3 : Int) (k0 : Bool→Prop) : Prop:=f64 n2 n3 (fun b4=>k0 (!b4))
structure f63 (n1 n2 n3 : Int) (k0 : Bool→Prop) : Prop where
  run : f63_d n1 n2 n3 k0
def f63_tab : List (Nat×Told):=[]
def f63_call : FuncId→List TV→List Entry→(TV→List Entry→Prop)→Prop:=addCall 64 f64_G (noCalls)
def f63_C : Ctx:=mkC [] [] [] [] [] false 0 true (lookL f63_tab) f63_call
def f63_G0 : List TV→List Entry→(TV→List Entry→Prop)→Prop:=fun tm hp K=>getS [.v (.pagg [.int .i64,.int .i64,.int .i64])] [] tm hp fun (xx : ((Int×(Int×(Int×Unit)))×Unit)) (yy : Unit)=>f63 xx.1.1 xx.1.2.1 xx.1.2.2.1 (fun b0_0=>K (B b0_0) [])
theorem f63_eq (n_1 n_2 n_3 : Int) (K : TV→List Entry→Prop) : (f63_d n_1 n_2 n_3 (fun b0_0=>K (B b0_0) [])) = funcT f63_C Tryd.f63 [.w (.pagg [pI n_1,pI n_2,pI n_3])] [] K:=by kernel_rfl
set_option maxHeartbeats 4000000 in
theorem f63_ok0 : FnOk Tryd.prog glob 63 f63_G0:=by
  refine FnOk.of_text (C:=f63_C) tab_ok.ok (Known.add f64_G_ok (Known.none)) follows_ok (fn:=Tryd.f63) (by kernel_rfl) (by kernel_rfl) (by kernel_rfl) (fun c hc=>?_) fun tm hp K h=>?_
  · have e : c = bodyOf Tryd.f63:=Option.some.inj (hc.symm.trans (by kernel_rfl))
    subst e
    exact ⟨LoopsOk.of [] (by kernel_rfl) trivial,TailsOk.of (tab:=f63_tab) rfl [] (by kernel_rfl) trivial⟩
  · unfold f63_G0 at h
    obtain ⟨xx,yy,rfl,rfl,h⟩:=getS_elim h
    have e:=(f63_eq xx.1.1 xx.1.2.1 xx.1.2.2.1 K).trans (show _ = funcT f63_C Tryd.f63 (mkR _ xx) (mkE _ yy) K by kernel_rfl)
    rw [← e]
    exact h.run
abbrev f63_G:=f63_G0
theorem f63_G_ok : FnOk Tryd.prog glob 63 f63_G:=f63_ok0
def f83_1_p4b0 (es3 : LL) (full4 : Bool) (n5 n6 : Int) (N0 : Int→Prop) (k0 : Int→Prop) (k1 : Unit→Prop) : Prop:=bB (decide (n6 < n5)) ((0≤n6∧n6 < (es3.length : Int))∧cI .i64 (ext (List.getD es3 (Int.toNat n6) []) 0 3) fun n8 r7=>cI .i64 r7 fun n10 r9=>cI .i64 r9 fun n12 r11=>nilC r11 <| f63 n8 n10 n12 (fun b13=>bB b13 (k0 n6) (N0 (w64 (n6 + 1))))) (k1 ())
def f83_1_p4 (es3 : LL) (full4 : Bool) (n5 : Int) (k0 : Int→Prop) (k1 : Unit→Prop) : Int→Prop:=LoopP fun x N=>f83_1_p4b0 es3 full4 n5 x (fun n6=>N n6) k0 k1
def f83_1_d (es1 : LL) (full2 : Bool) (k0 : Int→Prop) : Prop:=f83_1_p4 es1 full2 (es1.length : Int) k0 (fun (_ : Unit)=>k0 (-1)) 0
structure f83_1 (es1 : LL) (full2 : Bool) (k0 : Int→Prop) : Prop where
  run : f83_1_d es1 full2 k0
def f83_1_p4L : Told:=fun s K=>match s with
  | ⟨tm,hp⟩=>getS [.v (.one (.sl 3)),.v (.one (.fn 63)),.skip 5,.v (.one (.int .i64)),.v (.one (.int .i64)),.skip 10] [] tm hp fun (xx : ((LL×Bool)×(Unit×(Unit×(Int×(Int×(Unit×Unit))))))) (yy : Unit)=>f83_1_p4 xx.1.1 xx.1.2 xx.2.2.2.1 (fun n0_0=>K .ret ⟨mkS 19 [(4,I n0_0)],[]⟩) (fun (_ : Unit)=>K (.exit 0) ⟨mkS 19 [],[]⟩) xx.2.2.2.2.1
def f83_1_tab : List (Nat×Told):=[(4,f83_1_p4L)]
def f83_1_call : FuncId→List TV→List Entry→(TV→List Entry→Prop)→Prop:=addCall 63 f63_G (noCalls)
def f83_1_C : Ctx:=mkC [(4,[(0,[0,1,7,8]),(2,[4]),(3,[])])] [] [] [] [] false 0 true (lookL f83_1_tab) f83_1_call
def f83_1_p4_mk (es3 : LL) (full4 : Bool) (n5 x : Int) : St:=⟨mkS 19 [(0,.w (.one (.p (.sl 3 es3 full4)))),(1,.w (.one (.p (.c (.func (.func 63) #[] #[]))))),(7,I n5),(8,I x)],[]⟩
theorem f83_1_p4e0 (es_6 : LL) (full_7 : Bool) (n_8 n_9 : Int) (N : St→Prop) (K : TExit→St→Prop) : (f83_1_p4b0 es_6 full_7 n_8 n_9 (fun z3=>N (f83_1_p4_mk es_6 full_7 n_8 z3)) (fun n0_10=>K .ret ⟨mkS 19 [(4,I n0_10)],[]⟩) (fun (_ : Unit)=>K (.exit 0) ⟨mkS 19 [],[]⟩)) = execT f83_1_C (bd Tryd.f83 0) (f83_1_p4_mk es_6 full_7 n_8 n_9) (loopK N (normK f83_1_C 4) fun e s=>K e (normOut f83_1_C 4 e s)):=by kernel_rfl
set_option maxHeartbeats 4000000 in
theorem f83_1_p4_ok : LoopOk f83_1_C (bd Tryd.f83 0):=by
  refine LoopOk.of f83_1_p4L (by kernel_rfl) fun σ K h=>?_
  have hk : loopKey (bd Tryd.f83 0) = 4:=by kernel_rfl
  rw [hk] at h ⊢
  generalize hs : normK f83_1_C 4 σ = s at h
  obtain ⟨tm,hp⟩:=s
  unfold f83_1_p4L at h
  dsimp only at h
  obtain ⟨xx,yy,rfl,rfl,h⟩:=getS_elim h
  refine iter_of (f83_1_p4_mk xx.1.1 xx.1.2 xx.2.2.2.1) (fun x N h=>?_) rounds _ σ (hs.trans (by kernel_rfl)) (LoopP.run h)
  rw [← f83_1_p4e0 xx.1.1 xx.1.2 xx.2.2.2.1 x N K]
  exact h
def f83_1_G0 : List TV→List Entry→(TV→List Entry→Prop)→Prop:=fun tm hp K=>getS [.v (.one (.sl 3)),.v (.one (.fn 63))] [] tm hp fun (xx : ((LL×Bool)×(Unit×Unit))) (yy : Unit)=>f83_1 xx.1.1 xx.1.2 (fun n0_1=>K (I n0_1) [])
theorem f83_1_eq (es_11 : LL) (full_12 : Bool) (K : TV→List Entry→Prop) : (f83_1_d es_11 full_12 (fun n0_1=>K (I n0_1) [])) = funcT f83_1_C Tryd.f83 [.w (.one (.p (.sl 3 es_11 full_12))),.w (.one (.p (.c (.func (.func 63) #[] #[]))))] [] K:=by kernel_rfl
set_option maxHeartbeats 4000000 in
theorem f83_1_ok0 : FnOk Tryd.prog glob 83 f83_1_G0:=by
  refine FnOk.of_text (C:=f83_1_C) tab_ok.ok (Known.add f63_G_ok (Known.none)) follows_ok (fn:=Tryd.f83) (by kernel_rfl) (by kernel_rfl) (by kernel_rfl) (fun c hc=>?_) fun tm hp K h=>?_
  · have e : c = bodyOf Tryd.f83:=Option.some.inj (hc.symm.trans (by kernel_rfl))
    subst e
    exact ⟨LoopsOk.of [bd Tryd.f83 0] (by kernel_rfl) ⟨f83_1_p4_ok,trivial⟩,TailsOk.of (tab:=f83_1_tab) rfl [] (by kernel_rfl) trivial⟩
  · unfold f83_1_G0 at h
    obtain ⟨xx,yy,rfl,rfl,h⟩:=getS_elim h
    have e:=(f83_1_eq xx.1.1 xx.1.2 K).trans (show _ = funcT f83_1_C Tryd.f83 (mkR _ xx) (mkE _ yy) K by kernel_rfl)
    rw [← e]
    exact h.run
def f83_1_G : List TV→List Entry→(TV→List Entry→Prop)→Prop:=fun args H K=>bif isSig (sigOf args H) [5,1063,7] then f83_1_G0 args H K else f83_G args H K
theorem f83_1_G_ok : FnOk Tryd.prog glob 83 f83_1_G:=FnOk.or _ f83_1_ok0 f83_G_ok
end
end Go.Eng.N
