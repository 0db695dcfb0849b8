/- What the functions that the law reaches compute, by the engine; written by program. -/
import Derived.Test.YtcklpjecelnamaaGreatDoorEng2
import Derived.Test.YtcklpjecelnamaaGreatDoorProg
import Derived.KernelRfl
set_option linter.unusedVariables false
set_option maxRecDepth 100000
open Go Go.Eng Go.Proofs
namespace Go.Eng.N
noncomputable section
def tab : List (TypeId×TI):=[(2,⟨.int .i64,1,8,[pI 0],[.int .i64]⟩),
  (3,⟨.int .i64,1,8,[pI 0],[.int .i64]⟩),
  (4,⟨.bool,1,1,[pB false],[.bool]⟩),
  (5,⟨.int .u8,1,1,[.c (.int .u8 0)],[.int .u8]⟩),
  (9,⟨.str,1,16,[pS (⟨#[]⟩ : ByteArray)],[.str]⟩),
  (22,⟨.slice 62,1,24,[.sl 11 [] true],[.slice 11]⟩),
  (24,⟨.struct [(0,9),(1,22)],2,40,[pS (⟨#[]⟩ : ByteArray),.sl 11 [] true],[.str,.slice 11]⟩),
  (26,⟨.int .i64,1,8,[pI 0],[.int .i64]⟩),
  (30,⟨.slice 3,1,24,[.sl 1 [] true],[.slice 1]⟩),
  (35,⟨.func,1,8,[.c .nilFunc],[.other]⟩),
  (40,⟨.slice 67,1,24,[.sl 15 [] true],[.slice 15]⟩),
  (41,⟨.slice 24,1,24,[.sl 2 [] true],[.slice 2]⟩),
  (45,⟨.struct [(0,3),(1,2)],2,16,[pI 0,pI 0],[.int .i64,.int .i64]⟩),
  (53,⟨.slice 90,1,24,[.sl 2 [] true],[.slice 2]⟩),
  (60,⟨.struct [(0,3),(1,3),(2,3)],3,24,[pI 0,pI 0,pI 0],[.int .i64,.int .i64,.int .i64]⟩),
  (62,⟨.struct [(0,3),(1,3),(2,3),(3,3),(4,3),(5,60),(8,60)],11,88,[pI 0,pI 0,pI 0,pI 0,pI 0,pI 0,pI 0,pI 0,pI 0,pI 0,pI 0],[.int .i64,.int .i64,.int .i64,.int .i64,.int .i64,.int .i64,.int .i64,.int .i64,.int .i64,.int .i64,.int .i64]⟩),
  (64,⟨.struct [(0,3),(1,45)],3,24,[pI 0,pI 0,pI 0],[.int .i64,.int .i64,.int .i64]⟩),
  (65,⟨.slice 64,1,24,[.sl 3 [] true],[.slice 3]⟩),
  (67,⟨.struct [(0,9),(1,62),(12,9),(13,3),(14,65)],15,152,[pS (⟨#[]⟩ : ByteArray),pI 0,pI 0,pI 0,pI 0,pI 0,pI 0,pI 0,pI 0,pI 0,pI 0,pI 0,pS (⟨#[]⟩ : ByteArray),pI 0,.sl 3 [] true],[.str,.int .i64,.int .i64,.int .i64,.int .i64,.int .i64,.int .i64,.int .i64,.int .i64,.int .i64,.int .i64,.int .i64,.str,.int .i64,.slice 3]⟩),
  (74,⟨.map 9 4,1,8,[.c (.map none)],[.other]⟩),
  (90,⟨.array 2 3,2,16,[pI 0,pI 0],[.int .i64,.int .i64]⟩),
  (95,⟨.array 2 60,6,48,[pI 0,pI 0,pI 0,pI 0,pI 0,pI 0],[.int .i64,.int .i64,.int .i64,.int .i64,.int .i64,.int .i64]⟩),
  (107,⟨.slice 26,1,24,[.sl 1 [] true],[.slice 1]⟩),
  (113,⟨.int .u64,1,8,[.c (.int .u64 0)],[.int .u64]⟩),
  (130,⟨.array 13 3,13,104,[pI 0,pI 0,pI 0,pI 0,pI 0,pI 0,pI 0,pI 0,pI 0,pI 0,pI 0,pI 0,pI 0],[.int .i64,.int .i64,.int .i64,.int .i64,.int .i64,.int .i64,.int .i64,.int .i64,.int .i64,.int .i64,.int .i64,.int .i64,.int .i64]⟩)]
theorem tab_ok : TabOk Tryz.prog tab:=⟨mkTI_ok (by kernel_rfl),mkTI_ok (by kernel_rfl),mkTI_ok (by kernel_rfl),mkTI_ok (by kernel_rfl),mkTI_ok (by kernel_rfl),mkTI_ok (by kernel_rfl),mkTI_ok (by kernel_rfl),mkTI_ok (by kernel_rfl),mkTI_ok (by kernel_rfl),mkTI_ok (by kernel_rfl),mkTI_ok (by kernel_rfl),mkTI_ok (by kernel_rfl),mkTI_ok (by kernel_rfl),mkTI_ok (by kernel_rfl),mkTI_ok (by kernel_rfl),mkTI_ok (by kernel_rfl),mkTI_ok (by kernel_rfl),mkTI_ok (by kernel_rfl),mkTI_ok (by kernel_rfl),mkTI_ok (by kernel_rfl),mkTI_ok (by kernel_rfl),mkTI_ok (by kernel_rfl),mkTI_ok (by kernel_rfl),mkTI_ok (by kernel_rfl),mkTI_ok (by kernel_rfl),trivial⟩
def glob : Nat→Option (List PC):=fun g=>lookN none [(0,some [pI 0,pI 31,pI 28,pI 31,pI 30,pI 31,pI 30,pI 31,pI 31,pI 30,pI 31,pI 30,pI 31])] g
def byRef : FuncId→Bool:=fun g=>List.elem g [59,60,61,90,100,102,120,121,130,132]
abbrev LL:=List (List PC)
abbrev bd (f : Func) (k : Nat):=nthC (bodies (bodyOf f)) k
def mkC (keep : List (Nat×List (Nat×List Nat))) (late nref : List (Nat×List Nat)) (nbox : List (Nat×List (Nat×Nat))) (take : List Nat) (rnil : Bool) (m : Nat) (fz : Bool) (loops : Nat→Option (St→(TExit→St→Prop)→Prop)) (call : FuncId→List TV→List Entry→(TV→List Entry→Prop)→Prop) : Ctx :=
  { ty:=tyOf tab,glob:=glob,byRef:=byRef,keep:=fun k i=>lookN [] (lookN [] keep k) i,late:=lookN [] late,nref:=lookN [] nref,nbox:=lookN [] nbox,take:=take,rnil:=rnil,m:=m,fz:=fz,loops:=loops,call:=call }
theorem follows_ok : Tryz.prog.follows .mixedOrders = true:=by kernel_rfl
def f96_d (n1 : Int) (k0 : Int→Prop) : Prop:=(4 : Int)≠0∧(100 : Int)≠0∧(400 : Int)≠0∧k0 (w64 ((w64 (365 * (w64 (n1 - 2000)))) + (w64 ((w64 ((w64 ((w64 (Int.tdiv (w64 (n1 - 1)) 4)) - (w64 (Int.tdiv (w64 (n1 - 1)) 100)))) + (w64 (Int.tdiv (w64 (n1 - 1)) 400)))) - 484))))
structure f96 (n1 : Int) (k0 : Int→Prop) : Prop where
  run : f96_d n1 k0
def f96_tab : List (Nat×Told):=[]
def f96_call : FuncId→List TV→List Entry→(TV→List Entry→Prop)→Prop:=noCalls
def f96_C : Ctx:=mkC [] [] [] [] [] false 0 true (lookL f96_tab) f96_call
def f96_G0 : List TV→List Entry→(TV→List Entry→Prop)→Prop:=fun tm hp K=>getS [.v (.one (.int .i64))] [] tm hp fun (xx : (Int×Unit)) (yy : Unit)=>f96 xx.1 (fun n0_0=>K (I n0_0) [])
theorem f96_eq (n_1 : Int) (K : TV→List Entry→Prop) : (f96_d n_1 (fun n0_0=>K (I n0_0) [])) = funcT f96_C Tryz.f96 [I n_1] [] K:=by kernel_rfl
set_option maxHeartbeats 4000000 in
theorem f96_ok0 : FnOk Tryz.prog glob 96 f96_G0:=by
  refine FnOk.of_text (C:=f96_C) tab_ok.ok (Known.none) follows_ok (fn:=Tryz.f96) (by kernel_rfl) (by kernel_rfl) (by kernel_rfl) (fun c hc=>?_) fun tm hp K h=>?_
  · have e : c = bodyOf Tryz.f96:=Option.some.inj (hc.symm.trans (by kernel_rfl))
    subst e
    exact ⟨LoopsOk.of [] (by kernel_rfl) trivial,TailsOk.of (tab:=f96_tab) rfl [] (by kernel_rfl) trivial⟩
  · unfold f96_G0 at h
    obtain ⟨xx,yy,rfl,rfl,h⟩:=getS_elim h
    have e:=(f96_eq xx.1 K).trans (show _ = funcT f96_C Tryz.f96 (mkR _ xx) (mkE _ yy) K by kernel_rfl)
    rw [← e]
    exact h.run
abbrev f96_G:=f96_G0
theorem f96_G_ok : FnOk Tryz.prog glob 96 f96_G:=f96_ok0
def f115_d (n1 : Int) (k0 : Bool→Prop) : Prop:=(4 : Int)≠0∧bB ((Int.tmod n1 4) == 0) ((100 : Int)≠0∧bB ((Int.tmod n1 100) != 0) (k0 true) ((400 : Int)≠0∧k0 ((Int.tmod n1 400) == 0))) ((400 : Int)≠0∧k0 ((Int.tmod n1 400) == 0))
structure f115 (n1 : Int) (k0 : Bool→Prop) : Prop where
  run : f115_d n1 k0
def f115_tab : List (Nat×Told):=[]
def f115_call : FuncId→List TV→List Entry→(TV→List Entry→Prop)→Prop:=noCalls
def f115_C : Ctx:=mkC [] [] [] [] [] false 0 true (lookL f115_tab) f115_call
def f115_G0 : List TV→List Entry→(TV→List Entry→Prop)→Prop:=fun tm hp K=>getS [.v (.one (.int .i64))] [] tm hp fun (xx : (Int×Unit)) (yy : Unit)=>f115 xx.1 (fun b0_0=>K (B b0_0) [])
theorem f115_eq (n_1 : Int) (K : TV→List Entry→Prop) : (f115_d n_1 (fun b0_0=>K (B b0_0) [])) = funcT f115_C Tryz.f115 [I n_1] [] K:=by kernel_rfl
set_option maxHeartbeats 4000000 in
theorem f115_ok0 : FnOk Tryz.prog glob 115 f115_G0:=by
  refine FnOk.of_text (C:=f115_C) tab_ok.ok (Known.none) follows_ok (fn:=Tryz.f115) (by kernel_rfl) (by kernel_rfl) (by kernel_rfl) (fun c hc=>?_) fun tm hp K h=>?_
  · have e : c = bodyOf Tryz.f115:=Option.some.inj (hc.symm.trans (by kernel_rfl))
    subst e
    exact ⟨LoopsOk.of [] (by kernel_rfl) trivial,TailsOk.of (tab:=f115_tab) rfl [] (by kernel_rfl) trivial⟩
  · unfold f115_G0 at h
    obtain ⟨xx,yy,rfl,rfl,h⟩:=getS_elim h
    have e:=(f115_eq xx.1 K).trans (show _ = funcT f115_C Tryz.f115 (mkR _ xx) (mkE _ yy) K by kernel_rfl)
    rw [← e]
    exact h.run
abbrev f115_G:=f115_G0
theorem f115_G_ok : FnOk Tryz.prog glob 115 f115_G:=f115_ok0
def f95_d (n1 n2 : Int) (k0 : Int→Prop) : Prop:=bB (decide (n2 < 1)) (k0 0) (bB (decide (n2 > 12)) (k0 0) (bB (n2 == 2) (f115 n1 (fun b3=>bB b3 (k0 29) ((0≤n2∧n2 < 13)∧oI .i64 (ext [pI 0,pI 31,pI 28,pI 31,pI 30,pI 31,pI 30,pI 31,pI 31,pI 30,pI 31,pI 30,pI 31] (0 + ((Int.toNat n2) * 1)) 1) fun n4=>k0 n4))) ((0≤n2∧n2 < 13)∧oI .i64 (ext [pI 0,pI 31,pI 28,pI 31,pI 30,pI 31,pI 30,pI 31,pI 31,pI 30,pI 31,pI 30,pI 31] (0 + ((Int.toNat n2) * 1)) 1) fun n5=>k0 n5)))
structure f95 (n1 n2 : Int) (k0 : Int→Prop) : Prop where
  run : f95_d n1 n2 k0
def f95_tab : List (Nat×Told):=[]
def f95_call : FuncId→List TV→List Entry→(TV→List Entry→Prop)→Prop:=addCall 115 f115_G (noCalls)
def f95_C : Ctx:=mkC [] [] [] [] [] false 0 true (lookL f95_tab) f95_call
def f95_G0 : List TV→List Entry→(TV→List Entry→Prop)→Prop:=fun tm hp K=>getS [.v (.one (.int .i64)),.v (.one (.int .i64))] [] tm hp fun (xx : (Int×(Int×Unit))) (yy : Unit)=>f95 xx.1 xx.2.1 (fun n0_0=>K (I n0_0) [])
theorem f95_eq (n_1 n_2 : Int) (K : TV→List Entry→Prop) : (f95_d n_1 n_2 (fun n0_0=>K (I n0_0) [])) = funcT f95_C Tryz.f95 [I n_1,I n_2] [] K:=by kernel_rfl
set_option maxHeartbeats 4000000 in
theorem f95_ok0 : FnOk Tryz.prog glob 95 f95_G0:=by
  refine FnOk.of_text (C:=f95_C) tab_ok.ok (Known.add f115_G_ok (Known.none)) follows_ok (fn:=Tryz.f95) (by kernel_rfl) (by kernel_rfl) (by kernel_rfl) (fun c hc=>?_) fun tm hp K h=>?_
  · have e : c = bodyOf Tryz.f95:=Option.some.inj (hc.symm.trans (by kernel_rfl))
    subst e
    exact ⟨LoopsOk.of [] (by kernel_rfl) trivial,TailsOk.of (tab:=f95_tab) rfl [] (by kernel_rfl) trivial⟩
  · unfold f95_G0 at h
    obtain ⟨xx,yy,rfl,rfl,h⟩:=getS_elim h
    have e:=(f95_eq xx.1 xx.2.1 K).trans (show _ = funcT f95_C Tryz.f95 (mkR _ xx) (mkE _ yy) K by kernel_rfl)
    rw [← e]
    exact h.run
abbrev f95_G:=f95_G0
theorem f95_G_ok : FnOk Tryz.prog glob 95 f95_G:=f95_ok0
def f69_d (n1 n2 n3 : Int) (k0 : Int→Prop) : Prop:=bB (decide (n1 < 2000)) (k0 1) (bB (decide (n1 > 2199)) (k0 1) (bB (decide (n3 < 1)) (k0 6) (f95 n1 n2 (fun n4=>bB (decide (n3 > n4)) (k0 6) (k0 0)))))
structure f69 (n1 n2 n3 : Int) (k0 : Int→Prop) : Prop where
  run : f69_d n1 n2 n3 k0
def f69_tab : List (Nat×Told):=[]
def f69_call : FuncId→List TV→List Entry→(TV→List Entry→Prop)→Prop:=addCall 95 f95_G (noCalls)
def f69_C : Ctx:=mkC [] [] [] [] [] false 0 true (lookL f69_tab) f69_call
def f69_G0 : List TV→List Entry→(TV→List Entry→Prop)→Prop:=fun tm hp K=>getS [.v (.pagg [.int .i64,.int .i64,.int .i64])] [] tm hp fun (xx : ((Int×(Int×(Int×Unit)))×Unit)) (yy : Unit)=>f69 xx.1.1 xx.1.2.1 xx.1.2.2.1 (fun n0_0=>K (I n0_0) [])
theorem f69_eq (n_1 n_2 n_3 : Int) (K : TV→List Entry→Prop) : (f69_d n_1 n_2 n_3 (fun n0_0=>K (I n0_0) [])) = funcT f69_C Tryz.f69 [.w (.pagg [pI n_1,pI n_2,pI n_3])] [] K:=by kernel_rfl
set_option maxHeartbeats 4000000 in
theorem f69_ok0 : FnOk Tryz.prog glob 69 f69_G0:=by
  refine FnOk.of_text (C:=f69_C) tab_ok.ok (Known.add f95_G_ok (Known.none)) follows_ok (fn:=Tryz.f69) (by kernel_rfl) (by kernel_rfl) (by kernel_rfl) (fun c hc=>?_) fun tm hp K h=>?_
  · have e : c = bodyOf Tryz.f69:=Option.some.inj (hc.symm.trans (by kernel_rfl))
    subst e
    exact ⟨LoopsOk.of [] (by kernel_rfl) trivial,TailsOk.of (tab:=f69_tab) rfl [] (by kernel_rfl) trivial⟩
  · unfold f69_G0 at h
    obtain ⟨xx,yy,rfl,rfl,h⟩:=getS_elim h
    have e:=(f69_eq xx.1.1 xx.1.2.1 xx.1.2.2.1 K).trans (show _ = funcT f69_C Tryz.f69 (mkR _ xx) (mkE _ yy) K by kernel_rfl)
    rw [← e]
    exact h.run
abbrev f69_G:=f69_G0
theorem f69_G_ok : FnOk Tryz.prog glob 69 f69_G:=f69_ok0
def f70_p12b0 (n6 n7 : Int) (n8 n9 n10 : Int) (N0 : Int→Int→Prop) (k0 : Int→Prop) : Prop:=bB (decide (n7 < n9)) (f95 n8 n7 (fun n11=>N0 (w64 (n6 + n11)) (w64 (n7 + 1)))) (k0 n6)
def f70_p12 (n8 n9 n10 : Int) (k0 : Int→Prop) : Int×Int→Prop:=LoopP fun x N=>f70_p12b0 x.1 x.2 n8 n9 n10 (fun n6 n7=>N (n6,n7)) k0
def f70_d (n1 n2 n3 : Int) (k0 : Int→Int→Prop) : Prop:=f69 n1 n2 n3 (fun n4=>bB (n4 != 0) (k0 0 n4) (f96 n1 (fun n5=>f70_p12 n1 n2 n3 (fun n12=>k0 n12 0) ((w64 ((w64 (n5 + n3)) - 1)),1))))
structure f70 (n1 n2 n3 : Int) (k0 : Int→Int→Prop) : Prop where
  run : f70_d n1 n2 n3 k0
def f70_p12L : Told:=fun s K=>match s with
  | ⟨tm,hp⟩=>getS [.skip 1,.v (.one (.ptr 0 0 0)),.skip 3,.v (.one (.int .i64)),.v (.one (.int .i64)),.skip 25] [.box [.int .i64,.int .i64,.int .i64]] tm hp fun (xx : (Unit×(Unit×(Unit×(Int×(Int×(Unit×Unit))))))) (yy : ((Int×(Int×(Int×Unit)))×Unit))=>f70_p12 yy.1.1 yy.1.2.1 yy.1.2.2.1 (fun n0_0=>K (.exit 0) ⟨mkS 32 [(5,I n0_0)],[]⟩) (xx.2.2.2.1,xx.2.2.2.2.1)
def f70_tab : List (Nat×Told):=[(12,f70_p12L)]
def f70_call : FuncId→List TV→List Entry→(TV→List Entry→Prop)→Prop:=addCall 96 f96_G (addCall 95 f95_G (addCall 69 f69_G (noCalls)))
def f70_C : Ctx:=mkC [(12,[(0,[1,5,6]),(2,[2,3]),(3,[5])])] [] [] [] [] false 0 true (lookL f70_tab) f70_call
def f70_p12_mk (n8 n9 n10 : Int) (x : Int×Int) : St:=⟨mkS 32 [(1,.w (.one (.ptr 0 0 0))),(5,I x.1),(6,I x.2)],[.box [.p (pI n8),.p (pI n9),.p (pI n10)]]⟩
theorem f70_p12e0 (n_8 n_9 : Int) (n_10 n_11 n_12 : Int) (N : St→Prop) (K : TExit→St→Prop) : (f70_p12b0 n_8 n_9 n_10 n_11 n_12 (fun z0 z1=>N (f70_p12_mk n_10 n_11 n_12 (z0,z1))) (fun n0_13=>K (.exit 0) ⟨mkS 32 [(5,I n0_13)],[]⟩)) = execT f70_C (bd Tryz.f70 0) (f70_p12_mk n_10 n_11 n_12 (n_8,n_9)) (loopK N (normK f70_C 12) fun e s=>K e (normOut f70_C 12 e s)):=by kernel_rfl
set_option maxHeartbeats 4000000 in
theorem f70_p12_ok : LoopOk f70_C (bd Tryz.f70 0):=by
  refine LoopOk.of f70_p12L (by kernel_rfl) fun σ K h=>?_
  have hk : loopKey (bd Tryz.f70 0) = 12:=by kernel_rfl
  rw [hk] at h ⊢
  generalize hs : normK f70_C 12 σ = s at h
  obtain ⟨tm,hp⟩:=s
  unfold f70_p12L at h
  dsimp only at h
  obtain ⟨xx,yy,rfl,rfl,h⟩:=getS_elim h
  refine iter_of (f70_p12_mk yy.1.1 yy.1.2.1 yy.1.2.2.1) (fun x N h=>?_) rounds _ σ (hs.trans (by kernel_rfl)) (LoopP.run h)
  obtain ⟨y0,y1⟩:=x
  rw [← f70_p12e0 y0 y1 yy.1.1 yy.1.2.1 yy.1.2.2.1 N K]
  exact h
def f70_G0 : List TV→List Entry→(TV→List Entry→Prop)→Prop:=fun tm hp K=>getS [.v (.pagg [.int .i64,.int .i64,.int .i64])] [] tm hp fun (xx : ((Int×(Int×(Int×Unit)))×Unit)) (yy : Unit)=>f70 xx.1.1 xx.1.2.1 xx.1.2.2.1 (fun n0_1 n0_2=>K (.tup [.one (.p (pI n0_1)),.one (.p (pI n0_2))]) [])
theorem f70_eq (n_14 n_15 n_16 : Int) (K : TV→List Entry→Prop) : (f70_d n_14 n_15 n_16 (fun n0_1 n0_2=>K (.tup [.one (.p (pI n0_1)),.one (.p (pI n0_2))]) [])) = funcT f70_C Tryz.f70 [.w (.pagg [pI n_14,pI n_15,pI n_16])] [] K:=by kernel_rfl
set_option maxHeartbeats 4000000 in
theorem f70_ok0 : FnOk Tryz.prog glob 70 f70_G0:=by
  refine FnOk.of_text (C:=f70_C) tab_ok.ok (Known.add f96_G_ok (Known.add f95_G_ok (Known.add f69_G_ok (Known.none)))) follows_ok (fn:=Tryz.f70) (by kernel_rfl) (by kernel_rfl) (by kernel_rfl) (fun c hc=>?_) fun tm hp K h=>?_
  · have e : c = bodyOf Tryz.f70:=Option.some.inj (hc.symm.trans (by kernel_rfl))
    subst e
    exact ⟨LoopsOk.of [bd Tryz.f70 0] (by kernel_rfl) ⟨f70_p12_ok,trivial⟩,TailsOk.of (tab:=f70_tab) rfl [] (by kernel_rfl) trivial⟩
  · unfold f70_G0 at h
    obtain ⟨xx,yy,rfl,rfl,h⟩:=getS_elim h
    have e:=(f70_eq xx.1.1 xx.1.2.1 xx.1.2.2.1 K).trans (show _ = funcT f70_C Tryz.f70 (mkR _ xx) (mkE _ yy) K by kernel_rfl)
    rw [← e]
    exact h.run
abbrev f70_G:=f70_G0
theorem f70_G_ok : FnOk Tryz.prog glob 70 f70_G:=f70_ok0
def f127_d (n1 : Int) (k0 : Int→Prop) : Prop:=bB (decide (n1 < 0)) (k0 1) (bB (decide (n1 > 73048)) (k0 1) (k0 0))
structure f127 (n1 : Int) (k0 : Int→Prop) : Prop where
  run : f127_d n1 k0
def f127_tab : List (Nat×Told):=[]
def f127_call : FuncId→List TV→List Entry→(TV→List Entry→Prop)→Prop:=noCalls
def f127_C : Ctx:=mkC [] [] [] [] [] false 0 true (lookL f127_tab) f127_call
def f127_G0 : List TV→List Entry→(TV→List Entry→Prop)→Prop:=fun tm hp K=>getS [.v (.one (.int .i64))] [] tm hp fun (xx : (Int×Unit)) (yy : Unit)=>f127 xx.1 (fun n0_0=>K (I n0_0) [])
theorem f127_eq (n_1 : Int) (K : TV→List Entry→Prop) : (f127_d n_1 (fun n0_0=>K (I n0_0) [])) = funcT f127_C Tryz.f127 [I n_1] [] K:=by kernel_rfl
set_option maxHeartbeats 4000000 in
theorem f127_ok0 : FnOk Tryz.prog glob 127 f127_G0:=by
  refine FnOk.of_text (C:=f127_C) tab_ok.ok (Known.none) follows_ok (fn:=Tryz.f127) (by kernel_rfl) (by kernel_rfl) (by kernel_rfl) (fun c hc=>?_) fun tm hp K h=>?_
  · have e : c = bodyOf Tryz.f127:=Option.some.inj (hc.symm.trans (by kernel_rfl))
    subst e
    exact ⟨LoopsOk.of [] (by kernel_rfl) trivial,TailsOk.of (tab:=f127_tab) rfl [] (by kernel_rfl) trivial⟩
  · unfold f127_G0 at h
    obtain ⟨xx,yy,rfl,rfl,h⟩:=getS_elim h
    have e:=(f127_eq xx.1 K).trans (show _ = funcT f127_C Tryz.f127 (mkR _ xx) (mkE _ yy) K by kernel_rfl)
    rw [← e]
    exact h.run
abbrev f127_G:=f127_G0
theorem f127_G_ok : FnOk Tryz.prog glob 127 f127_G:=f127_ok0
def f128_p4b0 (n2 n3 : Int) (n4 n5 : Int) (n6 n7 n8 : Int) (N0 : Int→Prop) (k0 : Int→Prop) : Prop:=f96 (w64 (n6 + 1)) (fun n9=>bB (decide (n9≤n2)) (N0 (w64 (n6 + 1))) (k0 n6))
def f128_p4 (n2 n3 : Int) (n4 n5 : Int) (n7 n8 : Int) (k0 : Int→Prop) : Int→Prop:=LoopP fun x N=>f128_p4b0 n2 n3 n4 n5 x n7 n8 (fun n6=>N n6) k0
def f128_p10b0 (n12 n13 : Int) (n14 n15 : Int) (n16 n17 n18 : Int) (N0 : Int→Int→Prop) (k0 : Int→Int→Prop) : Prop:=f95 n16 n17 (fun n19=>bB (decide (n12≥n19)) (f95 n16 n17 (fun n20=>N0 (w64 (n12 - n20)) (w64 (n17 + 1)))) (k0 n12 n17))
def f128_p10 (n13 n14 : Int) (n15 n16 n18 : Int) (k0 : Int→Int→Prop) : Int×Int→Prop:=LoopP fun x N=>f128_p10b0 x.1 n13 n14 n15 n16 x.2 n18 (fun n12 n17=>N (n12,n17)) k0
def f128_d (n1 : Int) (k0 : Int→Int→Int→Prop) : Prop:=(366 : Int)≠0∧f128_p4 n1 0 0 0 1 0 (fun n10=>f96 n10 (fun n11=>f128_p10 0 0 0 n10 0 (fun n21 n22=>k0 n10 n22 (w64 (n21 + 1))) ((w64 (n1 - n11)),1))) (w64 (2000 + (w64 (Int.tdiv n1 366))))
structure f128 (n1 : Int) (k0 : Int→Int→Int→Prop) : Prop where
  run : f128_d n1 k0
def f128_p4L : Told:=fun s K=>match s with
  | ⟨tm,hp⟩=>getS [.v (.one (.int .i64)),.skip 1,.v (.one (.ptr 0 0 0)),.v (.one (.ptr 1 0 0)),.skip 42] [.box [.int .i64,.int .i64,.int .i64],.box [.int .i64,.int .i64,.int .i64]] tm hp fun (xx : (Int×(Unit×(Unit×(Unit×(Unit×Unit)))))) (yy : ((Int×(Int×(Int×Unit)))×((Int×(Int×(Int×Unit)))×Unit)))=>f128_p4 xx.1 yy.1.1 yy.1.2.1 yy.1.2.2.1 yy.2.1.2.1 yy.2.1.2.2.1 (fun n0_0=>K (.exit 0) ⟨mkS 46 [(0,I xx.1),(2,.w (.one (.ptr 0 0 0))),(3,.w (.one (.ptr 1 0 0)))],[.box [.p (pI yy.1.1),.p (pI yy.1.2.1),.p (pI yy.1.2.2.1)],.box [.p (pI n0_0),.p (pI yy.2.1.2.1),.p (pI yy.2.1.2.2.1)]]⟩) yy.2.1.1
def f128_p10L : Told:=fun s K=>match s with
  | ⟨tm,hp⟩=>getS [.skip 2,.v (.one (.ptr 0 0 0)),.v (.one (.ptr 1 0 0)),.v (.one (.int .i64)),.skip 41] [.box [.int .i64,.int .i64,.int .i64],.box [.int .i64,.int .i64,.int .i64]] tm hp fun (xx : (Unit×(Unit×(Unit×(Int×(Unit×Unit)))))) (yy : ((Int×(Int×(Int×Unit)))×((Int×(Int×(Int×Unit)))×Unit)))=>f128_p10 yy.1.1 yy.1.2.1 yy.1.2.2.1 yy.2.1.1 yy.2.1.2.2.1 (fun n0_1 n0_2=>K (.exit 2) ⟨mkS 46 [(2,.w (.one (.ptr 0 0 0))),(3,.w (.one (.ptr 1 0 0))),(4,I n0_1)],[.box [.p (pI yy.1.1),.p (pI yy.1.2.1),.p (pI yy.1.2.2.1)],.box [.p (pI yy.2.1.1),.p (pI n0_2),.p (pI yy.2.1.2.2.1)]]⟩) (xx.2.2.2.1,yy.2.1.2.1)
def f128_tab : List (Nat×Told):=[(4,f128_p4L),(10,f128_p10L)]
def f128_call : FuncId→List TV→List Entry→(TV→List Entry→Prop)→Prop:=addCall 96 f96_G (addCall 95 f95_G (noCalls))
def f128_C : Ctx:=mkC [(4,[(0,[0,2,3]),(2,[2]),(3,[0,2,3])]),(10,[(0,[2,3,4]),(2,[2]),(5,[2,3,4])])] [] [] [] [] false 0 true (lookL f128_tab) f128_call
def f128_p4_mk (n2 n3 : Int) (n4 n5 : Int) (n7 n8 x : Int) : St:=⟨mkS 46 [(0,I n2),(2,.w (.one (.ptr 0 0 0))),(3,.w (.one (.ptr 1 0 0)))],[.box [.p (pI n3),.p (pI n4),.p (pI n5)],.box [.p (pI x),.p (pI n7),.p (pI n8)]]⟩
theorem f128_p4e0 (n_13 n_14 : Int) (n_15 n_16 : Int) (n_17 n_18 n_19 : Int) (N : St→Prop) (K : TExit→St→Prop) : (f128_p4b0 n_13 n_14 n_15 n_16 n_17 n_18 n_19 (fun z4=>N (f128_p4_mk n_13 n_14 n_15 n_16 n_18 n_19 z4)) (fun n0_20=>K (.exit 0) ⟨mkS 46 [(0,I n_13),(2,.w (.one (.ptr 0 0 0))),(3,.w (.one (.ptr 1 0 0)))],[.box [.p (pI n_14),.p (pI n_15),.p (pI n_16)],.box [.p (pI n0_20),.p (pI n_18),.p (pI n_19)]]⟩)) = execT f128_C (bd Tryz.f128 0) (f128_p4_mk n_13 n_14 n_15 n_16 n_18 n_19 n_17) (loopK N (normK f128_C 4) fun e s=>K e (normOut f128_C 4 e s)):=by kernel_rfl
def f128_p10_mk (n13 n14 : Int) (n15 n16 n18 : Int) (x : Int×Int) : St:=⟨mkS 46 [(2,.w (.one (.ptr 0 0 0))),(3,.w (.one (.ptr 1 0 0))),(4,I x.1)],[.box [.p (pI n13),.p (pI n14),.p (pI n15)],.box [.p (pI n16),.p (pI x.2),.p (pI n18)]]⟩
theorem f128_p10e0 (n_28 n_29 : Int) (n_30 n_31 : Int) (n_32 n_33 n_34 : Int) (N : St→Prop) (K : TExit→St→Prop) : (f128_p10b0 n_28 n_29 n_30 n_31 n_32 n_33 n_34 (fun z0 z5=>N (f128_p10_mk n_29 n_30 n_31 n_32 n_34 (z0,z5))) (fun n0_35 n0_36=>K (.exit 2) ⟨mkS 46 [(2,.w (.one (.ptr 0 0 0))),(3,.w (.one (.ptr 1 0 0))),(4,I n0_35)],[.box [.p (pI n_29),.p (pI n_30),.p (pI n_31)],.box [.p (pI n_32),.p (pI n0_36),.p (pI n_34)]]⟩)) = execT f128_C (bd Tryz.f128 1) (f128_p10_mk n_29 n_30 n_31 n_32 n_34 (n_28,n_33)) (loopK N (normK f128_C 10) fun e s=>K e (normOut f128_C 10 e s)):=by kernel_rfl
set_option maxHeartbeats 4000000 in
theorem f128_p4_ok : LoopOk f128_C (bd Tryz.f128 0):=by
  refine LoopOk.of f128_p4L (by kernel_rfl) fun σ K h=>?_
  have hk : loopKey (bd Tryz.f128 0) = 4:=by kernel_rfl
  rw [hk] at h ⊢
  generalize hs : normK f128_C 4 σ = s at h
  obtain ⟨tm,hp⟩:=s
  unfold f128_p4L at h
  dsimp only at h
  obtain ⟨xx,yy,rfl,rfl,h⟩:=getS_elim h
  refine iter_of (f128_p4_mk xx.1 yy.1.1 yy.1.2.1 yy.1.2.2.1 yy.2.1.2.1 yy.2.1.2.2.1) (fun x N h=>?_) rounds _ σ (hs.trans (by kernel_rfl)) (LoopP.run h)
  rw [← f128_p4e0 xx.1 yy.1.1 yy.1.2.1 yy.1.2.2.1 x yy.2.1.2.1 yy.2.1.2.2.1 N K]
  exact h
set_option maxHeartbeats 4000000 in
theorem f128_p10_ok : LoopOk f128_C (bd Tryz.f128 1):=by
  refine LoopOk.of f128_p10L (by kernel_rfl) fun σ K h=>?_
  have hk : loopKey (bd Tryz.f128 1) = 10:=by kernel_rfl
  rw [hk] at h ⊢
  generalize hs : normK f128_C 10 σ = s at h
  obtain ⟨tm,hp⟩:=s
  unfold f128_p10L at h
  dsimp only at h
  obtain ⟨xx,yy,rfl,rfl,h⟩:=getS_elim h
  refine iter_of (f128_p10_mk yy.1.1 yy.1.2.1 yy.1.2.2.1 yy.2.1.1 yy.2.1.2.2.1) (fun x N h=>?_) rounds _ σ (hs.trans (by kernel_rfl)) (LoopP.run h)
  obtain ⟨y0,y1⟩:=x
  rw [← f128_p10e0 y0 yy.1.1 yy.1.2.1 yy.1.2.2.1 yy.2.1.1 y1 yy.2.1.2.2.1 N K]
  exact h
def f128_G0 : List TV→List Entry→(TV→List Entry→Prop)→Prop:=fun tm hp K=>getS [.v (.one (.int .i64))] [] tm hp fun (xx : (Int×Unit)) (yy : Unit)=>f128 xx.1 (fun n0_3 n0_4 n0_5=>K (.w (.pagg [pI n0_3,pI n0_4,pI n0_5])) [])
theorem f128_eq (n_37 : Int) (K : TV→List Entry→Prop) : (f128_d n_37 (fun n0_3 n0_4 n0_5=>K (.w (.pagg [pI n0_3,pI n0_4,pI n0_5])) [])) = funcT f128_C Tryz.f128 [I n_37] [] K:=by kernel_rfl
set_option maxHeartbeats 4000000 in
theorem f128_ok0 : FnOk Tryz.prog glob 128 f128_G0:=by
  refine FnOk.of_text (C:=f128_C) tab_ok.ok (Known.add f96_G_ok (Known.add f95_G_ok (Known.none))) follows_ok (fn:=Tryz.f128) (by kernel_rfl) (by kernel_rfl) (by kernel_rfl) (fun c hc=>?_) fun tm hp K h=>?_
  · have e : c = bodyOf Tryz.f128:=Option.some.inj (hc.symm.trans (by kernel_rfl))
    subst e
    exact ⟨LoopsOk.of [bd Tryz.f128 0,bd Tryz.f128 1] (by kernel_rfl) ⟨f128_p4_ok,f128_p10_ok,trivial⟩,TailsOk.of (tab:=f128_tab) rfl [] (by kernel_rfl) trivial⟩
  · unfold f128_G0 at h
    obtain ⟨xx,yy,rfl,rfl,h⟩:=getS_elim h
    have e:=(f128_eq xx.1 K).trans (show _ = funcT f128_C Tryz.f128 (mkR _ xx) (mkE _ yy) K by kernel_rfl)
    rw [← e]
    exact h.run
abbrev f128_G:=f128_G0
theorem f128_G_ok : FnOk Tryz.prog glob 128 f128_G:=f128_ok0
def f118_d (n1 : Int) (k0 : Int→Int→Int→Int→Prop) : Prop:=f127 n1 (fun n2=>bB (n2 != 0) (k0 0 0 0 n2) (f128 n1 (fun n3 n4 n5=>k0 n3 n4 n5 0)))
structure f118 (n1 : Int) (k0 : Int→Int→Int→Int→Prop) : Prop where
  run : f118_d n1 k0
def f118_tab : List (Nat×Told):=[]
def f118_call : FuncId→List TV→List Entry→(TV→List Entry→Prop)→Prop:=addCall 128 f128_G (addCall 127 f127_G (noCalls))
def f118_C : Ctx:=mkC [] [] [] [] [] false 0 true (lookL f118_tab) f118_call
def f118_G0 : List TV→List Entry→(TV→List Entry→Prop)→Prop:=fun tm hp K=>getS [.v (.one (.int .i64))] [] tm hp fun (xx : (Int×Unit)) (yy : Unit)=>f118 xx.1 (fun n0_0 n0_1 n0_2 n0_3=>K (.tup [.pagg [pI n0_0,pI n0_1,pI n0_2],.one (.p (pI n0_3))]) [])
theorem f118_eq (n_4 : Int) (K : TV→List Entry→Prop) : (f118_d n_4 (fun n0_0 n0_1 n0_2 n0_3=>K (.tup [.pagg [pI n0_0,pI n0_1,pI n0_2],.one (.p (pI n0_3))]) [])) = funcT f118_C Tryz.f118 [I n_4] [] K:=by kernel_rfl
set_option maxHeartbeats 4000000 in
theorem f118_ok0 : FnOk Tryz.prog glob 118 f118_G0:=by
  refine FnOk.of_text (C:=f118_C) tab_ok.ok (Known.add f128_G_ok (Known.add f127_G_ok (Known.none))) follows_ok (fn:=Tryz.f118) (by kernel_rfl) (by kernel_rfl) (by kernel_rfl) (fun c hc=>?_) fun tm hp K h=>?_
  · have e : c = bodyOf Tryz.f118:=Option.some.inj (hc.symm.trans (by kernel_rfl))
    subst e
    exact ⟨LoopsOk.of [] (by kernel_rfl) trivial,TailsOk.of (tab:=f118_tab) rfl [] (by kernel_rfl) trivial⟩
  · unfold f118_G0 at h
    obtain ⟨xx,yy,rfl,rfl,h⟩:=getS_elim h
    have e:=(f118_eq xx.1 K).trans (show _ = funcT f118_C Tryz.f118 (mkR _ xx) (mkE _ yy) K by kernel_rfl)
    rw [← e]
    exact h.run
abbrev f118_G:=f118_G0
theorem f118_G_ok : FnOk Tryz.prog glob 118 f118_G:=f118_ok0
def f129_d (n1 : Int) (k0 : Int→Prop) : Prop:=(7 : Int)≠0∧k0 (w64 ((Int.tmod (w64 (n1 + 5)) 7) + 1))
structure f129 (n1 : Int) (k0 : Int→Prop) : Prop where
  run : f129_d n1 k0
def f129_tab : List (Nat×Told):=[]
def f129_call : FuncId→List TV→List Entry→(TV→List Entry→Prop)→Prop:=noCalls
def f129_C : Ctx:=mkC [] [] [] [] [] false 0 true (lookL f129_tab) f129_call
def f129_G0 : List TV→List Entry→(TV→List Entry→Prop)→Prop:=fun tm hp K=>getS [.v (.one (.int .i64))] [] tm hp fun (xx : (Int×Unit)) (yy : Unit)=>f129 xx.1 (fun n0_0=>K (I n0_0) [])
theorem f129_eq (n_1 : Int) (K : TV→List Entry→Prop) : (f129_d n_1 (fun n0_0=>K (I n0_0) [])) = funcT f129_C Tryz.f129 [I n_1] [] K:=by kernel_rfl
set_option maxHeartbeats 4000000 in
theorem f129_ok0 : FnOk Tryz.prog glob 129 f129_G0:=by
  refine FnOk.of_text (C:=f129_C) tab_ok.ok (Known.none) follows_ok (fn:=Tryz.f129) (by kernel_rfl) (by kernel_rfl) (by kernel_rfl) (fun c hc=>?_) fun tm hp K h=>?_
  · have e : c = bodyOf Tryz.f129:=Option.some.inj (hc.symm.trans (by kernel_rfl))
    subst e
    exact ⟨LoopsOk.of [] (by kernel_rfl) trivial,TailsOk.of (tab:=f129_tab) rfl [] (by kernel_rfl) trivial⟩
  · unfold f129_G0 at h
    obtain ⟨xx,yy,rfl,rfl,h⟩:=getS_elim h
    have e:=(f129_eq xx.1 K).trans (show _ = funcT f129_C Tryz.f129 (mkR _ xx) (mkE _ yy) K by kernel_rfl)
    rw [← e]
    exact h.run
abbrev f129_G:=f129_G0
theorem f129_G_ok : FnOk Tryz.prog glob 129 f129_G:=f129_ok0
def f119_d (n1 : Int) (k0 : Int→Int→Prop) : Prop:=f127 n1 (fun n2=>bB (n2 != 0) (k0 0 n2) (f129 n1 (fun n3=>k0 n3 0)))
structure f119 (n1 : Int) (k0 : Int→Int→Prop) : Prop where
  run : f119_d n1 k0
def f119_tab : List (Nat×Told):=[]
def f119_call : FuncId→List TV→List Entry→(TV→List Entry→Prop)→Prop:=addCall 129 f129_G (addCall 127 f127_G (noCalls))
def f119_C : Ctx:=mkC [] [] [] [] [] false 0 true (lookL f119_tab) f119_call
def f119_G0 : List TV→List Entry→(TV→List Entry→Prop)→Prop:=fun tm hp K=>getS [.v (.one (.int .i64))] [] tm hp fun (xx : (Int×Unit)) (yy : Unit)=>f119 xx.1 (fun n0_0 n0_1=>K (.tup [.one (.p (pI n0_0)),.one (.p (pI n0_1))]) [])
theorem f119_eq (n_2 : Int) (K : TV→List Entry→Prop) : (f119_d n_2 (fun n0_0 n0_1=>K (.tup [.one (.p (pI n0_0)),.one (.p (pI n0_1))]) [])) = funcT f119_C Tryz.f119 [I n_2] [] K:=by kernel_rfl
set_option maxHeartbeats 4000000 in
theorem f119_ok0 : FnOk Tryz.prog glob 119 f119_G0:=by
  refine FnOk.of_text (C:=f119_C) tab_ok.ok (Known.add f129_G_ok (Known.add f127_G_ok (Known.none))) follows_ok (fn:=Tryz.f119) (by kernel_rfl) (by kernel_rfl) (by kernel_rfl) (fun c hc=>?_) fun tm hp K h=>?_
  · have e : c = bodyOf Tryz.f119:=Option.some.inj (hc.symm.trans (by kernel_rfl))
    subst e
    exact ⟨LoopsOk.of [] (by kernel_rfl) trivial,TailsOk.of (tab:=f119_tab) rfl [] (by kernel_rfl) trivial⟩
  · unfold f119_G0 at h
    obtain ⟨xx,yy,rfl,rfl,h⟩:=getS_elim h
    have e:=(f119_eq xx.1 K).trans (show _ = funcT f119_C Tryz.f119 (mkR _ xx) (mkE _ yy) K by kernel_rfl)
    rw [← e]
    exact h.run
abbrev f119_G:=f119_G0
theorem f119_G_ok : FnOk Tryz.prog glob 119 f119_G:=f119_ok0
def f97_d (n1 : Int) (k0 : Bool→Prop) : Prop:=(4 : Int)≠0∧bB ((Int.tmod n1 4) == 0) ((100 : Int)≠0∧bB ((Int.tmod n1 100) != 0) (k0 true) ((400 : Int)≠0∧k0 ((Int.tmod n1 400) == 0))) ((400 : Int)≠0∧k0 ((Int.tmod n1 400) == 0))
structure f97 (n1 : Int) (k0 : Bool→Prop) : Prop where
  run : f97_d n1 k0
def f97_tab : List (Nat×Told):=[]
def f97_call : FuncId→List TV→List Entry→(TV→List Entry→Prop)→Prop:=noCalls
def f97_C : Ctx:=mkC [] [] [] [] [] false 0 true (lookL f97_tab) f97_call
def f97_G0 : List TV→List Entry→(TV→List Entry→Prop)→Prop:=fun tm hp K=>getS [.v (.one (.int .i64))] [] tm hp fun (xx : (Int×Unit)) (yy : Unit)=>f97 xx.1 (fun b0_0=>K (B b0_0) [])
theorem f97_eq (n_1 : Int) (K : TV→List Entry→Prop) : (f97_d n_1 (fun b0_0=>K (B b0_0) [])) = funcT f97_C Tryz.f97 [I n_1] [] K:=by kernel_rfl
set_option maxHeartbeats 4000000 in
theorem f97_ok0 : FnOk Tryz.prog glob 97 f97_G0:=by
  refine FnOk.of_text (C:=f97_C) tab_ok.ok (Known.none) follows_ok (fn:=Tryz.f97) (by kernel_rfl) (by kernel_rfl) (by kernel_rfl) (fun c hc=>?_) fun tm hp K h=>?_
  · have e : c = bodyOf Tryz.f97:=Option.some.inj (hc.symm.trans (by kernel_rfl))
    subst e
    exact ⟨LoopsOk.of [] (by kernel_rfl) trivial,TailsOk.of (tab:=f97_tab) rfl [] (by kernel_rfl) trivial⟩
  · unfold f97_G0 at h
    obtain ⟨xx,yy,rfl,rfl,h⟩:=getS_elim h
    have e:=(f97_eq xx.1 K).trans (show _ = funcT f97_C Tryz.f97 (mkR _ xx) (mkE _ yy) K by kernel_rfl)
    rw [← e]
    exact h.run
abbrev f97_G:=f97_G0
theorem f97_G_ok : FnOk Tryz.prog glob 97 f97_G:=f97_ok0
def f82_p23 (n9 : Int) (k0 : Int→Prop) : Prop:=bB (decide (n9 < 1)) (k0 0) (bB (decide (n9 > 12)) (k0 0) (k0 31))
def f82_p13 (n3 n4 n5 : Int) (b6 : Bool) (k0 : Int→Prop) (k1 : Unit→Prop) : Prop:=bB b6 (k0 30) (bB (n5 == 2) (f97 n3 (fun b7=>bB b7 (k0 29) (k0 28))) (k1 ()))
def f82_d (n1 n2 : Int) (k0 : Int→Prop) : Prop:=bB (n2 == 4) (f82_p13 n1 n2 n2 true k0 (fun (_ : Unit)=>f82_p23 n2 k0)) (bB (n2 == 6) (f82_p13 n1 n2 n2 true k0 (fun (_ : Unit)=>f82_p23 n2 k0)) (bB (n2 == 9) (f82_p13 n1 n2 n2 true k0 (fun (_ : Unit)=>f82_p23 n2 k0)) (f82_p13 n1 n2 n2 (n2 == 11) k0 (fun (_ : Unit)=>f82_p23 n2 k0))))
structure f82 (n1 n2 : Int) (k0 : Int→Prop) : Prop where
  run : f82_d n1 n2 k0
def f82_p23L : Told:=fun s K=>match s with
  | ⟨tm,hp⟩=>getS [.skip 1,.v (.one (.int .i64)),.skip 19] [] tm hp fun (xx : (Unit×(Int×(Unit×Unit)))) (yy : Unit)=>f82_p23 xx.2.1 (fun n0_0=>K .ret ⟨mkS 21 [(4,I n0_0)],[]⟩)
def f82_p13L : Told:=fun s K=>match s with
  | ⟨tm,hp⟩=>getS [.v (.one (.int .i64)),.v (.one (.int .i64)),.skip 3,.v (.one (.int .i64)),.v (.one (.bool)),.skip 14] [] tm hp fun (xx : (Int×(Int×(Unit×(Int×(Bool×(Unit×Unit))))))) (yy : Unit)=>f82_p13 xx.1 xx.2.1 xx.2.2.2.1 xx.2.2.2.2.1 (fun n0_1=>K .ret ⟨mkS 21 [(4,I n0_1)],[]⟩) (fun (_ : Unit)=>K .normal ⟨mkS 21 [(1,I xx.2.1)],[]⟩)
def f82_tab : List (Nat×Told):=[(23,f82_p23L),(13,f82_p13L)]
def f82_call : FuncId→List TV→List Entry→(TV→List Entry→Prop)→Prop:=addCall 97 f97_G (noCalls)
def f82_C : Ctx:=mkC [(23,[(0,[1]),(1,[4]),(2,[4])]),(13,[(0,[0,1,5,6]),(1,[1]),(2,[4]),(3,[1])])] [] [] [] [] false 0 true (lookL f82_tab) f82_call
theorem f82_p23e0 (n_3 : Int) (K : TExit→St→Prop) : (f82_p23 n_3 (fun n0_4=>K .ret ⟨mkS 21 [(4,I n0_4)],[]⟩)) = execT f82_C (nthC (tails (bodyOf Tryz.f82)) 1) ⟨mkS 21 [(1,I n_3)],[]⟩ (fun e s=>K e (normOut f82_C 23 e s)):=by kernel_rfl
theorem f82_p13e0 (n_5 n_6 n_7 : Int) (b_8 : Bool) (K : TExit→St→Prop) : (f82_p13 n_5 n_6 n_7 b_8 (fun n0_9=>K .ret ⟨mkS 21 [(4,I n0_9)],[]⟩) (fun (_ : Unit)=>K .normal ⟨mkS 21 [(1,I n_6)],[]⟩)) = execT f82_C (nthC (tails (bodyOf Tryz.f82)) 3) ⟨mkS 21 [(0,I n_5),(1,I n_6),(5,I n_7),(6,B b_8)],[]⟩ (fun e s=>K e (normOut f82_C 13 e s)):=by kernel_rfl
set_option maxHeartbeats 4000000 in
theorem f82_p23_ok : TailOk f82_C (nthC (tails (bodyOf Tryz.f82)) 1):=by
  refine TailOk.of f82_p23L (by kernel_rfl) fun σ K h=>?_
  have hk : joinKey (nthC (tails (bodyOf Tryz.f82)) 1) = 23:=by kernel_rfl
  rw [hk] at h ⊢
  generalize hs : normK f82_C 23 σ = s at h
  obtain ⟨tm,hp⟩:=s
  unfold f82_p23L at h
  dsimp only at h
  obtain ⟨xx,yy,rfl,rfl,h⟩:=getS_elim h
  have q : normK f82_C 23 σ = (⟨mkS 21 [(1,I xx.2.1)],[]⟩ : St):=hs.trans (by kernel_rfl)
  rw [← hs,q,← f82_p23e0 xx.2.1 K]
  exact h
set_option maxHeartbeats 4000000 in
theorem f82_p13_ok : TailOk f82_C (nthC (tails (bodyOf Tryz.f82)) 3):=by
  refine TailOk.of f82_p13L (by kernel_rfl) fun σ K h=>?_
  have hk : joinKey (nthC (tails (bodyOf Tryz.f82)) 3) = 13:=by kernel_rfl
  rw [hk] at h ⊢
  generalize hs : normK f82_C 13 σ = s at h
  obtain ⟨tm,hp⟩:=s
  unfold f82_p13L at h
  dsimp only at h
  obtain ⟨xx,yy,rfl,rfl,h⟩:=getS_elim h
  have q : normK f82_C 13 σ = (⟨mkS 21 [(0,I xx.1),(1,I xx.2.1),(5,I xx.2.2.2.1),(6,B xx.2.2.2.2.1)],[]⟩ : St):=hs.trans (by kernel_rfl)
  rw [← hs,q,← f82_p13e0 xx.1 xx.2.1 xx.2.2.2.1 xx.2.2.2.2.1 K]
  exact h
def f82_G0 : List TV→List Entry→(TV→List Entry→Prop)→Prop:=fun tm hp K=>getS [.v (.one (.int .i64)),.v (.one (.int .i64))] [] tm hp fun (xx : (Int×(Int×Unit))) (yy : Unit)=>f82 xx.1 xx.2.1 (fun n0_2=>K (I n0_2) [])
theorem f82_eq (n_10 n_11 : Int) (K : TV→List Entry→Prop) : (f82_d n_10 n_11 (fun n0_2=>K (I n0_2) [])) = funcT f82_C Tryz.f82 [I n_10,I n_11] [] K:=by kernel_rfl
set_option maxHeartbeats 4000000 in
theorem f82_ok0 : FnOk Tryz.prog glob 82 f82_G0:=by
  refine FnOk.of_text (C:=f82_C) tab_ok.ok (Known.add f97_G_ok (Known.none)) follows_ok (fn:=Tryz.f82) (by kernel_rfl) (by kernel_rfl) (by kernel_rfl) (fun c hc=>?_) fun tm hp K h=>?_
  · have e : c = bodyOf Tryz.f82:=Option.some.inj (hc.symm.trans (by kernel_rfl))
    subst e
    exact ⟨LoopsOk.of [] (by kernel_rfl) trivial,TailsOk.of (tab:=f82_tab) rfl [nthC (tails (bodyOf Tryz.f82)) 1,nthC (tails (bodyOf Tryz.f82)) 3] (by kernel_rfl) ⟨f82_p23_ok,f82_p13_ok,trivial⟩⟩
  · unfold f82_G0 at h
    obtain ⟨xx,yy,rfl,rfl,h⟩:=getS_elim h
    have e:=(f82_eq xx.1 xx.2.1 K).trans (show _ = funcT f82_C Tryz.f82 (mkR _ xx) (mkE _ yy) K by kernel_rfl)
    rw [← e]
    exact h.run
abbrev f82_G:=f82_G0
theorem f82_G_ok : FnOk Tryz.prog glob 82 f82_G:=f82_ok0
def f76_p6b0 (n4 n5 : Int) (n6 n7 n8 : Int) (N0 : Int→Int→Prop) (k0 : Int→Prop) : Prop:=bB (decide (n5 < n6)) (f97 n5 (fun b9=>bB b9 (N0 (w64 ((w64 (n4 + 365)) + 1)) (w64 (n5 + 1))) (N0 (w64 (n4 + 365)) (w64 (n5 + 1))))) (k0 n4)
def f76_p6 (n6 n7 n8 : Int) (k0 : Int→Prop) : Int×Int→Prop:=LoopP fun x N=>f76_p6b0 x.1 x.2 n6 n7 n8 (fun n4 n5=>N (n4,n5)) k0
def f76_p18b0 (n11 n12 : Int) (n13 n14 n15 : Int) (N0 : Int→Int→Prop) (k0 : Int→Prop) : Prop:=bB (decide (n12 < n14)) (f82 n13 n12 (fun n16=>N0 (w64 (n11 + n16)) (w64 (n12 + 1)))) (k0 n11)
def f76_p18 (n13 n14 n15 : Int) (k0 : Int→Prop) : Int×Int→Prop:=LoopP fun x N=>f76_p18b0 x.1 x.2 n13 n14 n15 (fun n11 n12=>N (n11,n12)) k0
def f76_d (n1 n2 n3 : Int) (k0 : Int→Prop) : Prop:=f76_p6 n1 n2 n3 (fun n10=>f76_p18 n1 n2 n3 k0 (n10,1)) ((w64 (n3 - 1)),2000)
structure f76 (n1 n2 n3 : Int) (k0 : Int→Prop) : Prop where
  run : f76_d n1 n2 n3 k0
def f76_p6L : Told:=fun s K=>match s with
  | ⟨tm,hp⟩=>getS [.skip 1,.v (.one (.ptr 0 0 0)),.skip 1,.v (.one (.int .i64)),.v (.one (.int .i64)),.skip 29] [.box [.int .i64,.int .i64,.int .i64]] tm hp fun (xx : (Unit×(Unit×(Unit×(Int×(Int×(Unit×Unit))))))) (yy : ((Int×(Int×(Int×Unit)))×Unit))=>f76_p6 yy.1.1 yy.1.2.1 yy.1.2.2.1 (fun n0_0=>K (.exit 0) ⟨mkS 34 [(1,.w (.one (.ptr 0 0 0))),(3,I n0_0)],[.box [.p (pI yy.1.1),.p (pI yy.1.2.1),.p (pI yy.1.2.2.1)]]⟩) (xx.2.2.2.1,xx.2.2.2.2.1)
def f76_p18L : Told:=fun s K=>match s with
  | ⟨tm,hp⟩=>getS [.skip 1,.v (.one (.ptr 0 0 0)),.skip 1,.v (.one (.int .i64)),.skip 1,.v (.one (.int .i64)),.skip 28] [.box [.int .i64,.int .i64,.int .i64]] tm hp fun (xx : (Unit×(Unit×(Unit×(Int×(Unit×(Int×(Unit×Unit)))))))) (yy : ((Int×(Int×(Int×Unit)))×Unit))=>f76_p18 yy.1.1 yy.1.2.1 yy.1.2.2.1 (fun n0_1=>K (.exit 2) ⟨mkS 34 [(3,I n0_1)],[]⟩) (xx.2.2.2.1,xx.2.2.2.2.2.1)
def f76_tab : List (Nat×Told):=[(6,f76_p6L),(18,f76_p18L)]
def f76_call : FuncId→List TV→List Entry→(TV→List Entry→Prop)→Prop:=addCall 97 f97_G (addCall 82 f82_G (noCalls))
def f76_C : Ctx:=mkC [(6,[(0,[1,3,4]),(2,[2]),(3,[1,3])]),(18,[(0,[1,3,5]),(2,[2]),(5,[3])])] [] [] [] [] false 0 true (lookL f76_tab) f76_call
def f76_p6_mk (n6 n7 n8 : Int) (x : Int×Int) : St:=⟨mkS 34 [(1,.w (.one (.ptr 0 0 0))),(3,I x.1),(4,I x.2)],[.box [.p (pI n6),.p (pI n7),.p (pI n8)]]⟩
theorem f76_p6e0 (n_8 n_9 : Int) (n_10 n_11 n_12 : Int) (N : St→Prop) (K : TExit→St→Prop) : (f76_p6b0 n_8 n_9 n_10 n_11 n_12 (fun z0 z1=>N (f76_p6_mk n_10 n_11 n_12 (z0,z1))) (fun n0_13=>K (.exit 0) ⟨mkS 34 [(1,.w (.one (.ptr 0 0 0))),(3,I n0_13)],[.box [.p (pI n_10),.p (pI n_11),.p (pI n_12)]]⟩)) = execT f76_C (bd Tryz.f76 0) (f76_p6_mk n_10 n_11 n_12 (n_8,n_9)) (loopK N (normK f76_C 6) fun e s=>K e (normOut f76_C 6 e s)):=by kernel_rfl
def f76_p18_mk (n13 n14 n15 : Int) (x : Int×Int) : St:=⟨mkS 34 [(1,.w (.one (.ptr 0 0 0))),(3,I x.1),(5,I x.2)],[.box [.p (pI n13),.p (pI n14),.p (pI n15)]]⟩
theorem f76_p18e0 (n_19 n_20 : Int) (n_21 n_22 n_23 : Int) (N : St→Prop) (K : TExit→St→Prop) : (f76_p18b0 n_19 n_20 n_21 n_22 n_23 (fun z0 z1=>N (f76_p18_mk n_21 n_22 n_23 (z0,z1))) (fun n0_24=>K (.exit 2) ⟨mkS 34 [(3,I n0_24)],[]⟩)) = execT f76_C (bd Tryz.f76 1) (f76_p18_mk n_21 n_22 n_23 (n_19,n_20)) (loopK N (normK f76_C 18) fun e s=>K e (normOut f76_C 18 e s)):=by kernel_rfl
set_option maxHeartbeats 4000000 in
theorem f76_p6_ok : LoopOk f76_C (bd Tryz.f76 0):=by
  refine LoopOk.of f76_p6L (by kernel_rfl) fun σ K h=>?_
  have hk : loopKey (bd Tryz.f76 0) = 6:=by kernel_rfl
  rw [hk] at h ⊢
  generalize hs : normK f76_C 6 σ = s at h
  obtain ⟨tm,hp⟩:=s
  unfold f76_p6L at h
  dsimp only at h
  obtain ⟨xx,yy,rfl,rfl,h⟩:=getS_elim h
  refine iter_of (f76_p6_mk yy.1.1 yy.1.2.1 yy.1.2.2.1) (fun x N h=>?_) rounds _ σ (hs.trans (by kernel_rfl)) (LoopP.run h)
  obtain ⟨y0,y1⟩:=x
  rw [← f76_p6e0 y0 y1 yy.1.1 yy.1.2.1 yy.1.2.2.1 N K]
  exact h
set_option maxHeartbeats 4000000 in
theorem f76_p18_ok : LoopOk f76_C (bd Tryz.f76 1):=by
  refine LoopOk.of f76_p18L (by kernel_rfl) fun σ K h=>?_
  have hk : loopKey (bd Tryz.f76 1) = 18:=by kernel_rfl
  rw [hk] at h ⊢
  generalize hs : normK f76_C 18 σ = s at h
  obtain ⟨tm,hp⟩:=s
  unfold f76_p18L at h
  dsimp only at h
  obtain ⟨xx,yy,rfl,rfl,h⟩:=getS_elim h
  refine iter_of (f76_p18_mk yy.1.1 yy.1.2.1 yy.1.2.2.1) (fun x N h=>?_) rounds _ σ (hs.trans (by kernel_rfl)) (LoopP.run h)
  obtain ⟨y0,y1⟩:=x
  rw [← f76_p18e0 y0 y1 yy.1.1 yy.1.2.1 yy.1.2.2.1 N K]
  exact h
def f76_G0 : List TV→List Entry→(TV→List Entry→Prop)→Prop:=fun tm hp K=>getS [.v (.pagg [.int .i64,.int .i64,.int .i64])] [] tm hp fun (xx : ((Int×(Int×(Int×Unit)))×Unit)) (yy : Unit)=>f76 xx.1.1 xx.1.2.1 xx.1.2.2.1 (fun n0_2=>K (I n0_2) [])
theorem f76_eq (n_25 n_26 n_27 : Int) (K : TV→List Entry→Prop) : (f76_d n_25 n_26 n_27 (fun n0_2=>K (I n0_2) [])) = funcT f76_C Tryz.f76 [.w (.pagg [pI n_25,pI n_26,pI n_27])] [] K:=by kernel_rfl
set_option maxHeartbeats 4000000 in
theorem f76_ok0 : FnOk Tryz.prog glob 76 f76_G0:=by
  refine FnOk.of_text (C:=f76_C) tab_ok.ok (Known.add f97_G_ok (Known.add f82_G_ok (Known.none))) follows_ok (fn:=Tryz.f76) (by kernel_rfl) (by kernel_rfl) (by kernel_rfl) (fun c hc=>?_) fun tm hp K h=>?_
  · have e : c = bodyOf Tryz.f76:=Option.some.inj (hc.symm.trans (by kernel_rfl))
    subst e
    exact ⟨LoopsOk.of [bd Tryz.f76 0,bd Tryz.f76 1] (by kernel_rfl) ⟨f76_p6_ok,f76_p18_ok,trivial⟩,TailsOk.of (tab:=f76_tab) rfl [] (by kernel_rfl) trivial⟩
  · unfold f76_G0 at h
    obtain ⟨xx,yy,rfl,rfl,h⟩:=getS_elim h
    have e:=(f76_eq xx.1.1 xx.1.2.1 xx.1.2.2.1 K).trans (show _ = funcT f76_C Tryz.f76 (mkR _ xx) (mkE _ yy) K by kernel_rfl)
    rw [← e]
    exact h.run
abbrev f76_G:=f76_G0
theorem f76_G_ok : FnOk Tryz.prog glob 76 f76_G:=f76_ok0
def f37_p4b0 (n2 n3 : Int) (n4 n5 : Int) (n6 n7 n8 : Int) (N0 : Int→Prop) (k0 : Int→Prop) : Prop:=f76 (w64 (n6 + 1)) 1 1 (fun n9=>bB (decide (n9≤n2)) (N0 (w64 (n6 + 1))) (k0 n6))
def f37_p4 (n2 n3 : Int) (n4 n5 : Int) (n7 n8 : Int) (k0 : Int→Prop) : Int→Prop:=LoopP fun x N=>f37_p4b0 n2 n3 n4 n5 x n7 n8 (fun n6=>N n6) k0
def f37_p8b0 (n11 n12 : Int) (n13 n14 : Int) (n15 n16 n17 : Int) (N0 : Int→Prop) (k0 : Int→Prop) : Prop:=bB (decide (n16 < 12)) (f76 n15 (w64 (n16 + 1)) 1 (fun n18=>bB (decide (n18≤n11)) (N0 (w64 (n16 + 1))) (k0 n16))) (k0 n16)
def f37_p8 (n11 n12 : Int) (n13 n14 : Int) (n15 n17 : Int) (k0 : Int→Prop) : Int→Prop:=LoopP fun x N=>f37_p8b0 n11 n12 n13 n14 n15 x n17 (fun n16=>N n16) k0
def f37_d (n1 : Int) (k0 : Int→Int→Int→Prop) : Prop:=f37_p4 n1 0 0 0 1 1 (fun n10=>f37_p8 n1 0 0 0 n10 1 (fun n19=>f76 n10 n19 1 (fun n20=>k0 n10 n19 (w64 ((w64 (1 + n1)) - n20)))) 1) 2000
structure f37 (n1 : Int) (k0 : Int→Int→Int→Prop) : Prop where
  run : f37_d n1 k0
def f37_p4L : Told:=fun s K=>match s with
  | ⟨tm,hp⟩=>getS [.v (.one (.int .i64)),.skip 1,.v (.one (.ptr 0 0 0)),.v (.one (.ptr 1 0 0)),.skip 37] [.box [.int .i64,.int .i64,.int .i64],.box [.int .i64,.int .i64,.int .i64]] tm hp fun (xx : (Int×(Unit×(Unit×(Unit×(Unit×Unit)))))) (yy : ((Int×(Int×(Int×Unit)))×((Int×(Int×(Int×Unit)))×Unit)))=>f37_p4 xx.1 yy.1.1 yy.1.2.1 yy.1.2.2.1 yy.2.1.2.1 yy.2.1.2.2.1 (fun n0_0=>K (.exit 0) ⟨mkS 41 [(0,I xx.1),(2,.w (.one (.ptr 0 0 0))),(3,.w (.one (.ptr 1 0 0)))],[.box [.p (pI yy.1.1),.p (pI yy.1.2.1),.p (pI yy.1.2.2.1)],.box [.p (pI n0_0),.p (pI yy.2.1.2.1),.p (pI yy.2.1.2.2.1)]]⟩) yy.2.1.1
def f37_p8L : Told:=fun s K=>match s with
  | ⟨tm,hp⟩=>getS [.v (.one (.int .i64)),.skip 1,.v (.one (.ptr 0 0 0)),.v (.one (.ptr 1 0 0)),.skip 37] [.box [.int .i64,.int .i64,.int .i64],.box [.int .i64,.int .i64,.int .i64]] tm hp fun (xx : (Int×(Unit×(Unit×(Unit×(Unit×Unit)))))) (yy : ((Int×(Int×(Int×Unit)))×((Int×(Int×(Int×Unit)))×Unit)))=>f37_p8 xx.1 yy.1.1 yy.1.2.1 yy.1.2.2.1 yy.2.1.1 yy.2.1.2.2.1 (fun n0_1=>K (.exit 2) ⟨mkS 41 [(0,I xx.1),(2,.w (.one (.ptr 0 0 0))),(3,.w (.one (.ptr 1 0 0)))],[.box [.p (pI yy.1.1),.p (pI yy.1.2.1),.p (pI yy.1.2.2.1)],.box [.p (pI yy.2.1.1),.p (pI n0_1),.p (pI yy.2.1.2.2.1)]]⟩) yy.2.1.2.1
def f37_tab : List (Nat×Told):=[(4,f37_p4L),(8,f37_p8L)]
def f37_call : FuncId→List TV→List Entry→(TV→List Entry→Prop)→Prop:=addCall 76 f76_G (noCalls)
def f37_C : Ctx:=mkC [(4,[(0,[0,2,3]),(2,[2]),(3,[0,2,3])]),(8,[(0,[0,2,3]),(2,[2]),(5,[0,2,3])])] [] [] [] [] false 0 true (lookL f37_tab) f37_call
def f37_p4_mk (n2 n3 : Int) (n4 n5 : Int) (n7 n8 x : Int) : St:=⟨mkS 41 [(0,I n2),(2,.w (.one (.ptr 0 0 0))),(3,.w (.one (.ptr 1 0 0)))],[.box [.p (pI n3),.p (pI n4),.p (pI n5)],.box [.p (pI x),.p (pI n7),.p (pI n8)]]⟩
theorem f37_p4e0 (n_12 n_13 : Int) (n_14 n_15 : Int) (n_16 n_17 n_18 : Int) (N : St→Prop) (K : TExit→St→Prop) : (f37_p4b0 n_12 n_13 n_14 n_15 n_16 n_17 n_18 (fun z4=>N (f37_p4_mk n_12 n_13 n_14 n_15 n_17 n_18 z4)) (fun n0_19=>K (.exit 0) ⟨mkS 41 [(0,I n_12),(2,.w (.one (.ptr 0 0 0))),(3,.w (.one (.ptr 1 0 0)))],[.box [.p (pI n_13),.p (pI n_14),.p (pI n_15)],.box [.p (pI n0_19),.p (pI n_17),.p (pI n_18)]]⟩)) = execT f37_C (bd Tryz.f37 0) (f37_p4_mk n_12 n_13 n_14 n_15 n_17 n_18 n_16) (loopK N (normK f37_C 4) fun e s=>K e (normOut f37_C 4 e s)):=by kernel_rfl
def f37_p8_mk (n11 n12 : Int) (n13 n14 : Int) (n15 n17 x : Int) : St:=⟨mkS 41 [(0,I n11),(2,.w (.one (.ptr 0 0 0))),(3,.w (.one (.ptr 1 0 0)))],[.box [.p (pI n12),.p (pI n13),.p (pI n14)],.box [.p (pI n15),.p (pI x),.p (pI n17)]]⟩
theorem f37_p8e0 (n_27 n_28 : Int) (n_29 n_30 : Int) (n_31 n_32 n_33 : Int) (N : St→Prop) (K : TExit→St→Prop) : (f37_p8b0 n_27 n_28 n_29 n_30 n_31 n_32 n_33 (fun z5=>N (f37_p8_mk n_27 n_28 n_29 n_30 n_31 n_33 z5)) (fun n0_34=>K (.exit 2) ⟨mkS 41 [(0,I n_27),(2,.w (.one (.ptr 0 0 0))),(3,.w (.one (.ptr 1 0 0)))],[.box [.p (pI n_28),.p (pI n_29),.p (pI n_30)],.box [.p (pI n_31),.p (pI n0_34),.p (pI n_33)]]⟩)) = execT f37_C (bd Tryz.f37 1) (f37_p8_mk n_27 n_28 n_29 n_30 n_31 n_33 n_32) (loopK N (normK f37_C 8) fun e s=>K e (normOut f37_C 8 e s)):=by kernel_rfl
set_option maxHeartbeats 4000000 in
theorem f37_p4_ok : LoopOk f37_C (bd Tryz.f37 0):=by
  refine LoopOk.of f37_p4L (by kernel_rfl) fun σ K h=>?_
  have hk : loopKey (bd Tryz.f37 0) = 4:=by kernel_rfl
  rw [hk] at h ⊢
  generalize hs : normK f37_C 4 σ = s at h
  obtain ⟨tm,hp⟩:=s
  unfold f37_p4L at h
  dsimp only at h
  obtain ⟨xx,yy,rfl,rfl,h⟩:=getS_elim h
  refine iter_of (f37_p4_mk xx.1 yy.1.1 yy.1.2.1 yy.1.2.2.1 yy.2.1.2.1 yy.2.1.2.2.1) (fun x N h=>?_) rounds _ σ (hs.trans (by kernel_rfl)) (LoopP.run h)
  rw [← f37_p4e0 xx.1 yy.1.1 yy.1.2.1 yy.1.2.2.1 x yy.2.1.2.1 yy.2.1.2.2.1 N K]
  exact h
set_option maxHeartbeats 4000000 in
theorem f37_p8_ok : LoopOk f37_C (bd Tryz.f37 1):=by
  refine LoopOk.of f37_p8L (by kernel_rfl) fun σ K h=>?_
  have hk : loopKey (bd Tryz.f37 1) = 8:=by kernel_rfl
  rw [hk] at h ⊢
  generalize hs : normK f37_C 8 σ = s at h
  obtain ⟨tm,hp⟩:=s
  unfold f37_p8L at h
  dsimp only at h
  obtain ⟨xx,yy,rfl,rfl,h⟩:=getS_elim h
  refine iter_of (f37_p8_mk xx.1 yy.1.1 yy.1.2.1 yy.1.2.2.1 yy.2.1.1 yy.2.1.2.2.1) (fun x N h=>?_) rounds _ σ (hs.trans (by kernel_rfl)) (LoopP.run h)
  rw [← f37_p8e0 xx.1 yy.1.1 yy.1.2.1 yy.1.2.2.1 yy.2.1.1 x yy.2.1.2.2.1 N K]
  exact h
def f37_G0 : List TV→List Entry→(TV→List Entry→Prop)→Prop:=fun tm hp K=>getS [.v (.one (.int .i64))] [] tm hp fun (xx : (Int×Unit)) (yy : Unit)=>f37 xx.1 (fun n0_2 n0_3 n0_4=>K (.w (.pagg [pI n0_2,pI n0_3,pI n0_4])) [])
theorem f37_eq (n_35 : Int) (K : TV→List Entry→Prop) : (f37_d n_35 (fun n0_2 n0_3 n0_4=>K (.w (.pagg [pI n0_2,pI n0_3,pI n0_4])) [])) = funcT f37_C Tryz.f37 [I n_35] [] K:=by kernel_rfl
set_option maxHeartbeats 4000000 in
theorem f37_ok0 : FnOk Tryz.prog glob 37 f37_G0:=by
  refine FnOk.of_text (C:=f37_C) tab_ok.ok (Known.add f76_G_ok (Known.none)) follows_ok (fn:=Tryz.f37) (by kernel_rfl) (by kernel_rfl) (by kernel_rfl) (fun c hc=>?_) fun tm hp K h=>?_
  · have e : c = bodyOf Tryz.f37:=Option.some.inj (hc.symm.trans (by kernel_rfl))
    subst e
    exact ⟨LoopsOk.of [bd Tryz.f37 0,bd Tryz.f37 1] (by kernel_rfl) ⟨f37_p4_ok,f37_p8_ok,trivial⟩,TailsOk.of (tab:=f37_tab) rfl [] (by kernel_rfl) trivial⟩
  · unfold f37_G0 at h
    obtain ⟨xx,yy,rfl,rfl,h⟩:=getS_elim h
    have e:=(f37_eq xx.1 K).trans (show _ = funcT f37_C Tryz.f37 (mkR _ xx) (mkE _ yy) K by kernel_rfl)
    rw [← e]
    exact h.run
abbrev f37_G:=f37_G0
theorem f37_G_ok : FnOk Tryz.prog glob 37 f37_G:=f37_ok0
def f75_p7 (n4 n5 n6 : Int) (k0 : Int→Prop) : Prop:=bB (decide (n6 < 1)) (k0 6) (f82 n4 n5 (fun n7=>bB (decide (n6 > n7)) (k0 6) (k0 0)))
def f75_d (n1 n2 n3 : Int) (k0 : Int→Prop) : Prop:=bB (decide (n1 < 2000)) (k0 1) (bB (decide (n1 > 2199)) (k0 1) (f75_p7 n1 n2 n3 k0))
structure f75 (n1 n2 n3 : Int) (k0 : Int→Prop) : Prop where
  run : f75_d n1 n2 n3 k0
def f75_p7L : Told:=fun s K=>match s with
  | ⟨tm,hp⟩=>getS [.skip 1,.v (.one (.ptr 0 0 0)),.skip 22] [.box [.int .i64,.int .i64,.int .i64]] tm hp fun (xx : (Unit×(Unit×(Unit×Unit)))) (yy : ((Int×(Int×(Int×Unit)))×Unit))=>f75_p7 yy.1.1 yy.1.2.1 yy.1.2.2.1 (fun n0_0=>K .ret ⟨mkS 24 [(2,I n0_0)],[]⟩)
def f75_tab : List (Nat×Told):=[(7,f75_p7L)]
def f75_call : FuncId→List TV→List Entry→(TV→List Entry→Prop)→Prop:=addCall 82 f82_G (noCalls)
def f75_C : Ctx:=mkC [(7,[(0,[1]),(1,[2]),(2,[2])])] [] [] [] [] false 0 true (lookL f75_tab) f75_call
theorem f75_p7e0 (n_2 n_3 n_4 : Int) (K : TExit→St→Prop) : (f75_p7 n_2 n_3 n_4 (fun n0_5=>K .ret ⟨mkS 24 [(2,I n0_5)],[]⟩)) = execT f75_C (nthC (tails (bodyOf Tryz.f75)) 1) ⟨mkS 24 [(1,.w (.one (.ptr 0 0 0)))],[.box [.p (pI n_2),.p (pI n_3),.p (pI n_4)]]⟩ (fun e s=>K e (normOut f75_C 7 e s)):=by kernel_rfl
set_option maxHeartbeats 4000000 in
theorem f75_p7_ok : TailOk f75_C (nthC (tails (bodyOf Tryz.f75)) 1):=by
  refine TailOk.of f75_p7L (by kernel_rfl) fun σ K h=>?_
  have hk : joinKey (nthC (tails (bodyOf Tryz.f75)) 1) = 7:=by kernel_rfl
  rw [hk] at h ⊢
  generalize hs : normK f75_C 7 σ = s at h
  obtain ⟨tm,hp⟩:=s
  unfold f75_p7L at h
  dsimp only at h
  obtain ⟨xx,yy,rfl,rfl,h⟩:=getS_elim h
  have q : normK f75_C 7 σ = (⟨mkS 24 [(1,.w (.one (.ptr 0 0 0)))],[.box [.p (pI yy.1.1),.p (pI yy.1.2.1),.p (pI yy.1.2.2.1)]]⟩ : St):=hs.trans (by kernel_rfl)
  rw [← hs,q,← f75_p7e0 yy.1.1 yy.1.2.1 yy.1.2.2.1 K]
  exact h
def f75_G0 : List TV→List Entry→(TV→List Entry→Prop)→Prop:=fun tm hp K=>getS [.v (.pagg [.int .i64,.int .i64,.int .i64])] [] tm hp fun (xx : ((Int×(Int×(Int×Unit)))×Unit)) (yy : Unit)=>f75 xx.1.1 xx.1.2.1 xx.1.2.2.1 (fun n0_1=>K (I n0_1) [])
theorem f75_eq (n_6 n_7 n_8 : Int) (K : TV→List Entry→Prop) : (f75_d n_6 n_7 n_8 (fun n0_1=>K (I n0_1) [])) = funcT f75_C Tryz.f75 [.w (.pagg [pI n_6,pI n_7,pI n_8])] [] K:=by kernel_rfl
set_option maxHeartbeats 4000000 in
theorem f75_ok0 : FnOk Tryz.prog glob 75 f75_G0:=by
  refine FnOk.of_text (C:=f75_C) tab_ok.ok (Known.add f82_G_ok (Known.none)) follows_ok (fn:=Tryz.f75) (by kernel_rfl) (by kernel_rfl) (by kernel_rfl) (fun c hc=>?_) fun tm hp K h=>?_
  · have e : c = bodyOf Tryz.f75:=Option.some.inj (hc.symm.trans (by kernel_rfl))
    subst e
    exact ⟨LoopsOk.of [] (by kernel_rfl) trivial,TailsOk.of (tab:=f75_tab) rfl [nthC (tails (bodyOf Tryz.f75)) 1] (by kernel_rfl) ⟨f75_p7_ok,trivial⟩⟩
  · unfold f75_G0 at h
    obtain ⟨xx,yy,rfl,rfl,h⟩:=getS_elim h
    have e:=(f75_eq xx.1.1 xx.1.2.1 xx.1.2.2.1 K).trans (show _ = funcT f75_C Tryz.f75 (mkR _ xx) (mkE _ yy) K by kernel_rfl)
    rw [← e]
    exact h.run
abbrev f75_G:=f75_G0
theorem f75_G_ok : FnOk Tryz.prog glob 75 f75_G:=f75_ok0
def f83_d (n1 : Int) (k0 : Int→Prop) : Prop:=(7 : Int)≠0∧k0 (w64 ((Int.tmod (w64 (n1 + 5)) 7) + 1))
structure f83 (n1 : Int) (k0 : Int→Prop) : Prop where
  run : f83_d n1 k0
def f83_tab : List (Nat×Told):=[]
def f83_call : FuncId→List TV→List Entry→(TV→List Entry→Prop)→Prop:=noCalls
def f83_C : Ctx:=mkC [] [] [] [] [] false 0 true (lookL f83_tab) f83_call
def f83_G0 : List TV→List Entry→(TV→List Entry→Prop)→Prop:=fun tm hp K=>getS [.v (.one (.int .i64))] [] tm hp fun (xx : (Int×Unit)) (yy : Unit)=>f83 xx.1 (fun n0_0=>K (I n0_0) [])
theorem f83_eq (n_1 : Int) (K : TV→List Entry→Prop) : (f83_d n_1 (fun n0_0=>K (I n0_0) [])) = funcT f83_C Tryz.f83 [I n_1] [] K:=by kernel_rfl
set_option maxHeartbeats 4000000 in
theorem f83_ok0 : FnOk Tryz.prog glob 83 f83_G0:=by
  refine FnOk.of_text (C:=f83_C) tab_ok.ok (Known.none) follows_ok (fn:=Tryz.f83) (by kernel_rfl) (by kernel_rfl) (by kernel_rfl) (fun c hc=>?_) fun tm hp K h=>?_
  · have e : c = bodyOf Tryz.f83:=Option.some.inj (hc.symm.trans (by kernel_rfl))
    subst e
    exact ⟨LoopsOk.of [] (by kernel_rfl) trivial,TailsOk.of (tab:=f83_tab) rfl [] (by kernel_rfl) trivial⟩
  · unfold f83_G0 at h
    obtain ⟨xx,yy,rfl,rfl,h⟩:=getS_elim h
    have e:=(f83_eq xx.1 K).trans (show _ = funcT f83_C Tryz.f83 (mkR _ xx) (mkE _ yy) K by kernel_rfl)
    rw [← e]
    exact h.run
abbrev f83_G:=f83_G0
theorem f83_G_ok : FnOk Tryz.prog glob 83 f83_G:=f83_ok0
def f101_p11 (n5 n6 : Int) (n7 n8 : Int) (n9 n10 : Int) (k0 : Int→Int→Prop) : Prop:=bB (decide (n6 > 12)) (k0 (w64 (n5 + 1)) 1) (k0 n5 n6)
def f101_d (n1 n2 n3 : Int) (k0 : Int→Int→Int→Prop) : Prop:=f82 n1 n2 (fun n4=>bB (decide ((w64 (n3 + 1)) > n4)) (f101_p11 n1 (w64 (n2 + 1)) 1 0 0 0 (fun n11 n12=>k0 n11 n12 1)) (f101_p11 n1 n2 (w64 (n3 + 1)) 0 0 0 (fun n13 n14=>k0 n13 n14 (w64 (n3 + 1)))))
structure f101 (n1 n2 n3 : Int) (k0 : Int→Int→Int→Prop) : Prop where
  run : f101_d n1 n2 n3 k0
def f101_p11L : Told:=fun s K=>match s with
  | ⟨tm,hp⟩=>getS [.skip 1,.v (.one (.ptr 0 0 0)),.v (.one (.ptr 1 0 0)),.skip 26] [.box [.int .i64,.int .i64,.int .i64],.box [.int .i64,.int .i64,.int .i64]] tm hp fun (xx : (Unit×(Unit×(Unit×(Unit×Unit))))) (yy : ((Int×(Int×(Int×Unit)))×((Int×(Int×(Int×Unit)))×Unit)))=>f101_p11 yy.1.1 yy.1.2.1 yy.1.2.2.1 yy.2.1.1 yy.2.1.2.1 yy.2.1.2.2.1 (fun n0_0 n0_1=>K .ret ⟨mkS 29 [(2,.w (.one (.ptr 0 0 0)))],[.box [.p (pI n0_0),.p (pI n0_1),.p (pI yy.1.2.2.1)]]⟩)
def f101_tab : List (Nat×Told):=[(11,f101_p11L)]
def f101_call : FuncId→List TV→List Entry→(TV→List Entry→Prop)→Prop:=addCall 82 f82_G (noCalls)
def f101_C : Ctx:=mkC [(11,[(0,[1,2]),(1,[2]),(2,[2])])] [] [] [] [] false 0 true (lookL f101_tab) f101_call
theorem f101_p11e0 (n_5 n_6 : Int) (n_7 n_8 : Int) (n_9 n_10 : Int) (K : TExit→St→Prop) : (f101_p11 n_5 n_6 n_7 n_8 n_9 n_10 (fun n0_11 n0_12=>K .ret ⟨mkS 29 [(2,.w (.one (.ptr 0 0 0)))],[.box [.p (pI n0_11),.p (pI n0_12),.p (pI n_7)]]⟩)) = execT f101_C (nthC (tails (bodyOf Tryz.f101)) 2) ⟨mkS 29 [(1,.w (.one (.ptr 0 0 0))),(2,.w (.one (.ptr 1 0 0)))],[.box [.p (pI n_5),.p (pI n_6),.p (pI n_7)],.box [.p (pI n_8),.p (pI n_9),.p (pI n_10)]]⟩ (fun e s=>K e (normOut f101_C 11 e s)):=by kernel_rfl
set_option maxHeartbeats 4000000 in
theorem f101_p11_ok : TailOk f101_C (nthC (tails (bodyOf Tryz.f101)) 2):=by
  refine TailOk.of f101_p11L (by kernel_rfl) fun σ K h=>?_
  have hk : joinKey (nthC (tails (bodyOf Tryz.f101)) 2) = 11:=by kernel_rfl
  rw [hk] at h ⊢
  generalize hs : normK f101_C 11 σ = s at h
  obtain ⟨tm,hp⟩:=s
  unfold f101_p11L at h
  dsimp only at h
  obtain ⟨xx,yy,rfl,rfl,h⟩:=getS_elim h
  have q : normK f101_C 11 σ = (⟨mkS 29 [(1,.w (.one (.ptr 0 0 0))),(2,.w (.one (.ptr 1 0 0)))],[.box [.p (pI yy.1.1),.p (pI yy.1.2.1),.p (pI yy.1.2.2.1)],.box [.p (pI yy.2.1.1),.p (pI yy.2.1.2.1),.p (pI yy.2.1.2.2.1)]]⟩ : St):=hs.trans (by kernel_rfl)
  rw [← hs,q,← f101_p11e0 yy.1.1 yy.1.2.1 yy.1.2.2.1 yy.2.1.1 yy.2.1.2.1 yy.2.1.2.2.1 K]
  exact h
def f101_G0 : List TV→List Entry→(TV→List Entry→Prop)→Prop:=fun tm hp K=>getS [.v (.pagg [.int .i64,.int .i64,.int .i64])] [] tm hp fun (xx : ((Int×(Int×(Int×Unit)))×Unit)) (yy : Unit)=>f101 xx.1.1 xx.1.2.1 xx.1.2.2.1 (fun n0_2 n0_3 n0_4=>K (.w (.pagg [pI n0_2,pI n0_3,pI n0_4])) [])
theorem f101_eq (n_13 n_14 n_15 : Int) (K : TV→List Entry→Prop) : (f101_d n_13 n_14 n_15 (fun n0_2 n0_3 n0_4=>K (.w (.pagg [pI n0_2,pI n0_3,pI n0_4])) [])) = funcT f101_C Tryz.f101 [.w (.pagg [pI n_13,pI n_14,pI n_15])] [] K:=by kernel_rfl
set_option maxHeartbeats 4000000 in
theorem f101_ok0 : FnOk Tryz.prog glob 101 f101_G0:=by
  refine FnOk.of_text (C:=f101_C) tab_ok.ok (Known.add f82_G_ok (Known.none)) follows_ok (fn:=Tryz.f101) (by kernel_rfl) (by kernel_rfl) (by kernel_rfl) (fun c hc=>?_) fun tm hp K h=>?_
  · have e : c = bodyOf Tryz.f101:=Option.some.inj (hc.symm.trans (by kernel_rfl))
    subst e
    exact ⟨LoopsOk.of [] (by kernel_rfl) trivial,TailsOk.of (tab:=f101_tab) rfl [nthC (tails (bodyOf Tryz.f101)) 2] (by kernel_rfl) ⟨f101_p11_ok,trivial⟩⟩
  · unfold f101_G0 at h
    obtain ⟨xx,yy,rfl,rfl,h⟩:=getS_elim h
    have e:=(f101_eq xx.1.1 xx.1.2.1 xx.1.2.2.1 K).trans (show _ = funcT f101_C Tryz.f101 (mkR _ xx) (mkE _ yy) K by kernel_rfl)
    rw [← e]
    exact h.run
abbrev f101_G:=f101_G0
theorem f101_G_ok : FnOk Tryz.prog glob 101 f101_G:=f101_ok0
def f67_d (n1 n2 : Int) (k0 : Bool→Prop) : Prop:=bB (decide (n1≥0)) (k0 (decide (n1≤n2))) (k0 false)
structure f67 (n1 n2 : Int) (k0 : Bool→Prop) : Prop where
  run : f67_d n1 n2 k0
def f67_tab : List (Nat×Told):=[]
def f67_call : FuncId→List TV→List Entry→(TV→List Entry→Prop)→Prop:=noCalls
def f67_C : Ctx:=mkC [] [] [] [] [] false 0 true (lookL f67_tab) f67_call
def f67_G0 : List TV→List Entry→(TV→List Entry→Prop)→Prop:=fun tm hp K=>getS [.v (.one (.int .i64)),.v (.one (.int .i64))] [] tm hp fun (xx : (Int×(Int×Unit))) (yy : Unit)=>f67 xx.1 xx.2.1 (fun b0_0=>K (B b0_0) [])
theorem f67_eq (n_1 n_2 : Int) (K : TV→List Entry→Prop) : (f67_d n_1 n_2 (fun b0_0=>K (B b0_0) [])) = funcT f67_C Tryz.f67 [I n_1,I n_2] [] K:=by kernel_rfl
set_option maxHeartbeats 4000000 in
theorem f67_ok0 : FnOk Tryz.prog glob 67 f67_G0:=by
  refine FnOk.of_text (C:=f67_C) tab_ok.ok (Known.none) follows_ok (fn:=Tryz.f67) (by kernel_rfl) (by kernel_rfl) (by kernel_rfl) (fun c hc=>?_) fun tm hp K h=>?_
  · have e : c = bodyOf Tryz.f67:=Option.some.inj (hc.symm.trans (by kernel_rfl))
    subst e
    exact ⟨LoopsOk.of [] (by kernel_rfl) trivial,TailsOk.of (tab:=f67_tab) rfl [] (by kernel_rfl) trivial⟩
  · unfold f67_G0 at h
    obtain ⟨xx,yy,rfl,rfl,h⟩:=getS_elim h
    have e:=(f67_eq xx.1 xx.2.1 K).trans (show _ = funcT f67_C Tryz.f67 (mkR _ xx) (mkE _ yy) K by kernel_rfl)
    rw [← e]
    exact h.run
abbrev f67_G:=f67_G0
theorem f67_G_ok : FnOk Tryz.prog glob 67 f67_G:=f67_ok0
def f68_d (n1 n2 : Int) (n3 n4 : Int) (n5 n6 : Int) (n7 n8 : Int) (n9 n10 n11 : Int) (k0 : Bool→Prop) : Prop:=bB (!((n6 == 0) && ((n7 == 0) && ((n8 == 0) && true)))) (k0 true) (k0 (!((n9 == 0) && ((n10 == 0) && ((n11 == 0) && true)))))
structure f68 (n1 n2 : Int) (n3 n4 : Int) (n5 n6 : Int) (n7 n8 : Int) (n9 n10 n11 : Int) (k0 : Bool→Prop) : Prop where
  run : f68_d n1 n2 n3 n4 n5 n6 n7 n8 n9 n10 n11 k0
def f68_tab : List (Nat×Told):=[]
def f68_call : FuncId→List TV→List Entry→(TV→List Entry→Prop)→Prop:=noCalls
def f68_C : Ctx:=mkC [] [] [] [] [] false 0 true (lookL f68_tab) f68_call
def f68_G0 : List TV→List Entry→(TV→List Entry→Prop)→Prop:=fun tm hp K=>getS [.v (.pagg [.int .i64,.int .i64,.int .i64,.int .i64,.int .i64,.int .i64,.int .i64,.int .i64,.int .i64,.int .i64,.int .i64])] [] tm hp fun (xx : ((Int×(Int×(Int×(Int×(Int×(Int×(Int×(Int×(Int×(Int×(Int×Unit)))))))))))×Unit)) (yy : Unit)=>f68 xx.1.1 xx.1.2.1 xx.1.2.2.1 xx.1.2.2.2.1 xx.1.2.2.2.2.1 xx.1.2.2.2.2.2.1 xx.1.2.2.2.2.2.2.1 xx.1.2.2.2.2.2.2.2.1 xx.1.2.2.2.2.2.2.2.2.1 xx.1.2.2.2.2.2.2.2.2.2.1 xx.1.2.2.2.2.2.2.2.2.2.2.1 (fun b0_0=>K (B b0_0) [])
theorem f68_eq (n_1 n_2 : Int) (n_3 n_4 : Int) (n_5 n_6 : Int) (n_7 n_8 : Int) (n_9 n_10 n_11 : Int) (K : TV→List Entry→Prop) : (f68_d n_1 n_2 n_3 n_4 n_5 n_6 n_7 n_8 n_9 n_10 n_11 (fun b0_0=>K (B b0_0) [])) = funcT f68_C Tryz.f68 [.w (.pagg [pI n_1,pI n_2,pI n_3,pI n_4,pI n_5,pI n_6,pI n_7,pI n_8,pI n_9,pI n_10,pI n_11])] [] K:=by kernel_rfl
set_option maxHeartbeats 4000000 in
theorem f68_ok0 : FnOk Tryz.prog glob 68 f68_G0:=by
  refine FnOk.of_text (C:=f68_C) tab_ok.ok (Known.none) follows_ok (fn:=Tryz.f68) (by kernel_rfl) (by kernel_rfl) (by kernel_rfl) (fun c hc=>?_) fun tm hp K h=>?_
  · have e : c = bodyOf Tryz.f68:=Option.some.inj (hc.symm.trans (by kernel_rfl))
    subst e
    exact ⟨LoopsOk.of [] (by kernel_rfl) trivial,TailsOk.of (tab:=f68_tab) rfl [] (by kernel_rfl) trivial⟩
  · unfold f68_G0 at h
    obtain ⟨xx,yy,rfl,rfl,h⟩:=getS_elim h
    have e:=(f68_eq xx.1.1 xx.1.2.1 xx.1.2.2.1 xx.1.2.2.2.1 xx.1.2.2.2.2.1 xx.1.2.2.2.2.2.1 xx.1.2.2.2.2.2.2.1 xx.1.2.2.2.2.2.2.2.1 xx.1.2.2.2.2.2.2.2.2.1 xx.1.2.2.2.2.2.2.2.2.2.1 xx.1.2.2.2.2.2.2.2.2.2.2.1 K).trans (show _ = funcT f68_C Tryz.f68 (mkR _ xx) (mkE _ yy) K by kernel_rfl)
    rw [← e]
    exact h.run
abbrev f68_G:=f68_G0
theorem f68_G_ok : FnOk Tryz.prog glob 68 f68_G:=f68_ok0
def f30_p20b0 (n32 n33 : Int) (n34 n35 : Int) (n36 n37 : Int) (n38 n39 : Int) (n40 n41 : Int) (n42 n43 : Int) (n44 n45 : Int) (n46 n47 : Int) (n48 n49 : Int) (cs50 : List PC) (N0 : Int→(List PC)→Prop) (k0 : Int→Prop) (k1 : (List PC)→Prop) : Prop:=bB (decide (n38 < 2)) ((0≤n38∧n38 < 2)∧cI .i64 (ext [pI n32,pI n33,pI n34,pI n35,pI n36,pI n37] ((Int.toNat n38) * 3) 3) fun n52 r51=>cI .i64 r51 fun n54 r53=>cI .i64 r53 fun n56 r55=>nilC r55 <| bB ((n52 == 0) && ((n54 == 0) && ((n56 == 0) && true))) (N0 (w64 (n38 + 1)) cs50) (f69 n52 n54 n56 (fun n57=>bB (n57 != 0) (k0 n57) (f70 n52 n54 n56 (fun n58 n59=>(0≤n38∧n38 < 2)∧1 = 1∧((0 + ((Int.toNat n38) * 1)) + 1)≤cs50.length∧N0 (w64 (n38 + 1)) (splice cs50 (0 + ((Int.toNat n38) * 1)) [pI n58])))))) (k1 cs50)
def f30_p20 (n32 n33 : Int) (n34 n35 : Int) (n36 n37 : Int) (n39 n40 : Int) (n41 n42 : Int) (n43 n44 : Int) (n45 n46 : Int) (n47 n48 n49 : Int) (k0 : Int→Prop) (k1 : (List PC)→Prop) : Int×(List PC)→Prop:=LoopP fun x N=>f30_p20b0 n32 n33 n34 n35 n36 n37 x.1 n39 n40 n41 n42 n43 n44 n45 n46 n47 n48 n49 x.2 (fun n38 cs50=>N (n38,cs50)) k0 k1
def f30_p17 (n21 n22 : Int) (n23 n24 : Int) (n25 n26 : Int) (n27 n28 : Int) (n29 n30 n31 : Int) (k0 : Int→Prop) : Prop:=2 = 2∧2≤2∧f30_p20 n26 n27 n28 n29 n30 n31 n21 n22 n23 n24 n25 n26 n27 n28 n29 n30 n31 k0 (fun cs61=>bB (!((n29 == 0) && ((n30 == 0) && ((n31 == 0) && true)))) ((0≤(0 : Int)∧(0 : Int) < 2)∧oI .i64 (ext cs61 0 1) fun n62=>(0≤(1 : Int)∧(1 : Int) < 2)∧oI .i64 (ext cs61 1 1) fun n63=>bB (decide (n62 > n63)) (k0 6) (k0 0)) (k0 0)) (0,[pI 0,pI 73048])
def f30_d (n1 n2 : Int) (n3 n4 : Int) (n5 n6 : Int) (n7 n8 : Int) (n9 n10 n11 : Int) (k0 : Int→Prop) : Prop:=f68 n1 n2 n3 n4 n5 n6 n7 n8 n9 n10 n11 (fun b12=>bB (!b12) (bB (n1 != 0) (bB (decide (n1 < 2000)) (k0 6) (bB (decide (n1 > 2199)) (k0 6) (f67 n2 14 (fun b13=>bB (!b13) (k0 6) (f67 n3 34 (fun b14=>bB (!b14) (k0 6) (f67 n4 7 (fun b15=>bB (!b15) (k0 6) (f67 n5 6 (fun b16=>bB (!b16) (k0 6) (k0 0))))))))))) (f67 n2 14 (fun b17=>bB (!b17) (k0 6) (f67 n3 34 (fun b18=>bB (!b18) (k0 6) (f67 n4 7 (fun b19=>bB (!b19) (k0 6) (f67 n5 6 (fun b20=>bB (!b20) (k0 6) (k0 0)))))))))) (bB (n1 != 0) (k0 10) (bB (n2 != 0) (k0 10) (bB (n3 != 0) (k0 10) (bB (n4 != 0) (k0 10) (bB (n5 != 0) (k0 10) (f30_p17 n1 n2 n3 n4 n5 n6 n7 n8 n9 n10 n11 k0)))))))
structure f30 (n1 n2 : Int) (n3 n4 : Int) (n5 n6 : Int) (n7 n8 : Int) (n9 n10 n11 : Int) (k0 : Int→Prop) : Prop where
  run : f30_d n1 n2 n3 n4 n5 n6 n7 n8 n9 n10 n11 k0
def f30_p20L : Told:=fun s K=>match s with
  | ⟨tm,hp⟩=>getS [.skip 1,.v (.one (.ptr 0 0 0)),.skip 2,.v (.one (.ptr 1 0 0)),.skip 75,.v (.pagg [.int .i64,.int .i64,.int .i64,.int .i64,.int .i64,.int .i64]),.v (.one (.int .i64)),.skip 30] [.box [.int .i64,.int .i64,.int .i64,.int .i64,.int .i64,.int .i64,.int .i64,.int .i64,.int .i64,.int .i64,.int .i64],.pbox] tm hp fun (xx : (Unit×(Unit×(Unit×(Unit×(Unit×((Int×(Int×(Int×(Int×(Int×(Int×Unit))))))×(Int×(Unit×Unit))))))))) (yy : ((Int×(Int×(Int×(Int×(Int×(Int×(Int×(Int×(Int×(Int×(Int×Unit)))))))))))×((List PC)×Unit)))=>f30_p20 xx.2.2.2.2.2.1.1 xx.2.2.2.2.2.1.2.1 xx.2.2.2.2.2.1.2.2.1 xx.2.2.2.2.2.1.2.2.2.1 xx.2.2.2.2.2.1.2.2.2.2.1 xx.2.2.2.2.2.1.2.2.2.2.2.1 yy.1.1 yy.1.2.1 yy.1.2.2.1 yy.1.2.2.2.1 yy.1.2.2.2.2.1 yy.1.2.2.2.2.2.1 yy.1.2.2.2.2.2.2.1 yy.1.2.2.2.2.2.2.2.1 yy.1.2.2.2.2.2.2.2.2.1 yy.1.2.2.2.2.2.2.2.2.2.1 yy.1.2.2.2.2.2.2.2.2.2.2.1 (fun n0_0=>K .ret ⟨mkS 112 [(2,I n0_0)],[]⟩) (fun cs1_1=>K (.exit 0) ⟨mkS 112 [(1,.w (.one (.ptr 0 0 0))),(4,.w (.one (.ptr 1 0 0)))],[.box [.p (pI yy.1.1),.p (pI yy.1.2.1),.p (pI yy.1.2.2.1),.p (pI yy.1.2.2.2.1),.p (pI yy.1.2.2.2.2.1),.p (pI yy.1.2.2.2.2.2.1),.p (pI yy.1.2.2.2.2.2.2.1),.p (pI yy.1.2.2.2.2.2.2.2.1),.p (pI yy.1.2.2.2.2.2.2.2.2.1),.p (pI yy.1.2.2.2.2.2.2.2.2.2.1),.p (pI yy.1.2.2.2.2.2.2.2.2.2.2.1)],.pbox cs1_1]⟩) (xx.2.2.2.2.2.2.1,yy.2.1)
def f30_p17L : Told:=fun s K=>match s with
  | ⟨tm,hp⟩=>getS [.skip 1,.v (.one (.ptr 0 0 0)),.skip 110] [.box [.int .i64,.int .i64,.int .i64,.int .i64,.int .i64,.int .i64,.int .i64,.int .i64,.int .i64,.int .i64,.int .i64]] tm hp fun (xx : (Unit×(Unit×(Unit×Unit)))) (yy : ((Int×(Int×(Int×(Int×(Int×(Int×(Int×(Int×(Int×(Int×(Int×Unit)))))))))))×Unit))=>f30_p17 yy.1.1 yy.1.2.1 yy.1.2.2.1 yy.1.2.2.2.1 yy.1.2.2.2.2.1 yy.1.2.2.2.2.2.1 yy.1.2.2.2.2.2.2.1 yy.1.2.2.2.2.2.2.2.1 yy.1.2.2.2.2.2.2.2.2.1 yy.1.2.2.2.2.2.2.2.2.2.1 yy.1.2.2.2.2.2.2.2.2.2.2.1 (fun n0_2=>K .ret ⟨mkS 112 [(2,I n0_2)],[]⟩)
def f30_tab : List (Nat×Told):=[(20,f30_p20L),(17,f30_p17L)]
def f30_call : FuncId→List TV→List Entry→(TV→List Entry→Prop)→Prop:=addCall 70 f70_G (addCall 69 f69_G (addCall 68 f68_G (addCall 67 f67_G (noCalls))))
def f30_C : Ctx:=mkC [(20,[(0,[1,4,80,81]),(2,[2]),(3,[1,4])]),(17,[(0,[1]),(1,[2]),(2,[2])])] [] [] [] [] false 0 true (lookL f30_tab) f30_call
def f30_p20_mk (n32 n33 : Int) (n34 n35 : Int) (n36 n37 : Int) (n39 n40 : Int) (n41 n42 : Int) (n43 n44 : Int) (n45 n46 : Int) (n47 n48 n49 : Int) (x : Int×(List PC)) : St:=⟨mkS 112 [(1,.w (.one (.ptr 0 0 0))),(4,.w (.one (.ptr 1 0 0))),(80,.w (.pagg [pI n32,pI n33,pI n34,pI n35,pI n36,pI n37])),(81,I x.1)],[.box [.p (pI n39),.p (pI n40),.p (pI n41),.p (pI n42),.p (pI n43),.p (pI n44),.p (pI n45),.p (pI n46),.p (pI n47),.p (pI n48),.p (pI n49)],.pbox x.2]⟩
theorem f30_p20e0 (n_23 n_24 : Int) (n_25 n_26 : Int) (n_27 n_28 : Int) (n_29 n_30 : Int) (n_31 n_32 : Int) (n_33 n_34 : Int) (n_35 n_36 : Int) (n_37 n_38 : Int) (n_39 n_40 : Int) (cs_41 : List PC) (N : St→Prop) (K : TExit→St→Prop) : (f30_p20b0 n_23 n_24 n_25 n_26 n_27 n_28 n_29 n_30 n_31 n_32 n_33 n_34 n_35 n_36 n_37 n_38 n_39 n_40 cs_41 (fun z6 z18=>N (f30_p20_mk n_23 n_24 n_25 n_26 n_27 n_28 n_30 n_31 n_32 n_33 n_34 n_35 n_36 n_37 n_38 n_39 n_40 (z6,z18))) (fun n0_42=>K .ret ⟨mkS 112 [(2,I n0_42)],[]⟩) (fun cs1_43=>K (.exit 0) ⟨mkS 112 [(1,.w (.one (.ptr 0 0 0))),(4,.w (.one (.ptr 1 0 0)))],[.box [.p (pI n_30),.p (pI n_31),.p (pI n_32),.p (pI n_33),.p (pI n_34),.p (pI n_35),.p (pI n_36),.p (pI n_37),.p (pI n_38),.p (pI n_39),.p (pI n_40)],.pbox cs1_43]⟩)) = execT f30_C (bd Tryz.f30 0) (f30_p20_mk n_23 n_24 n_25 n_26 n_27 n_28 n_30 n_31 n_32 n_33 n_34 n_35 n_36 n_37 n_38 n_39 n_40 (n_29,cs_41)) (loopK N (normK f30_C 20) fun e s=>K e (normOut f30_C 20 e s)):=by kernel_rfl
theorem f30_p17e0 (n_44 n_45 : Int) (n_46 n_47 : Int) (n_48 n_49 : Int) (n_50 n_51 : Int) (n_52 n_53 n_54 : Int) (K : TExit→St→Prop) : (f30_p17 n_44 n_45 n_46 n_47 n_48 n_49 n_50 n_51 n_52 n_53 n_54 (fun n0_55=>K .ret ⟨mkS 112 [(2,I n0_55)],[]⟩)) = execT f30_C (nthC (tails (bodyOf Tryz.f30)) 8) ⟨mkS 112 [(1,.w (.one (.ptr 0 0 0)))],[.box [.p (pI n_44),.p (pI n_45),.p (pI n_46),.p (pI n_47),.p (pI n_48),.p (pI n_49),.p (pI n_50),.p (pI n_51),.p (pI n_52),.p (pI n_53),.p (pI n_54)]]⟩ (fun e s=>K e (normOut f30_C 17 e s)):=by kernel_rfl
set_option maxHeartbeats 4000000 in
theorem f30_p20_ok : LoopOk f30_C (bd Tryz.f30 0):=by
  refine LoopOk.of f30_p20L (by kernel_rfl) fun σ K h=>?_
  have hk : loopKey (bd Tryz.f30 0) = 20:=by kernel_rfl
  rw [hk] at h ⊢
  generalize hs : normK f30_C 20 σ = s at h
  obtain ⟨tm,hp⟩:=s
  unfold f30_p20L at h
  dsimp only at h
  obtain ⟨xx,yy,rfl,rfl,h⟩:=getS_elim h
  refine iter_of (f30_p20_mk xx.2.2.2.2.2.1.1 xx.2.2.2.2.2.1.2.1 xx.2.2.2.2.2.1.2.2.1 xx.2.2.2.2.2.1.2.2.2.1 xx.2.2.2.2.2.1.2.2.2.2.1 xx.2.2.2.2.2.1.2.2.2.2.2.1 yy.1.1 yy.1.2.1 yy.1.2.2.1 yy.1.2.2.2.1 yy.1.2.2.2.2.1 yy.1.2.2.2.2.2.1 yy.1.2.2.2.2.2.2.1 yy.1.2.2.2.2.2.2.2.1 yy.1.2.2.2.2.2.2.2.2.1 yy.1.2.2.2.2.2.2.2.2.2.1 yy.1.2.2.2.2.2.2.2.2.2.2.1) (fun x N h=>?_) rounds _ σ (hs.trans (by kernel_rfl)) (LoopP.run h)
  obtain ⟨y0,y1⟩:=x
  rw [← f30_p20e0 xx.2.2.2.2.2.1.1 xx.2.2.2.2.2.1.2.1 xx.2.2.2.2.2.1.2.2.1 xx.2.2.2.2.2.1.2.2.2.1 xx.2.2.2.2.2.1.2.2.2.2.1 xx.2.2.2.2.2.1.2.2.2.2.2.1 y0 yy.1.1 yy.1.2.1 yy.1.2.2.1 yy.1.2.2.2.1 yy.1.2.2.2.2.1 yy.1.2.2.2.2.2.1 yy.1.2.2.2.2.2.2.1 yy.1.2.2.2.2.2.2.2.1 yy.1.2.2.2.2.2.2.2.2.1 yy.1.2.2.2.2.2.2.2.2.2.1 yy.1.2.2.2.2.2.2.2.2.2.2.1 y1 N K]
  exact h
set_option maxHeartbeats 4000000 in
theorem f30_p17_ok : TailOk f30_C (nthC (tails (bodyOf Tryz.f30)) 8):=by
  refine TailOk.of f30_p17L (by kernel_rfl) fun σ K h=>?_
  have hk : joinKey (nthC (tails (bodyOf Tryz.f30)) 8) = 17:=by kernel_rfl
  rw [hk] at h ⊢
  generalize hs : normK f30_C 17 σ = s at h
  obtain ⟨tm,hp⟩:=s
  unfold f30_p17L at h
  dsimp only at h
  obtain ⟨xx,yy,rfl,rfl,h⟩:=getS_elim h
  have q : normK f30_C 17 σ = (⟨mkS 112 [(1,.w (.one (.ptr 0 0 0)))],[.box [.p (pI yy.1.1),.p (pI yy.1.2.1),.p (pI yy.1.2.2.1),.p (pI yy.1.2.2.2.1),.p (pI yy.1.2.2.2.2.1),.p (pI yy.1.2.2.2.2.2.1),.p (pI yy.1.2.2.2.2.2.2.1),.p (pI yy.1.2.2.2.2.2.2.2.1),.p (pI yy.1.2.2.2.2.2.2.2.2.1),.p (pI yy.1.2.2.2.2.2.2.2.2.2.1),.p (pI yy.1.2.2.2.2.2.2.2.2.2.2.1)]]⟩ : St):=hs.trans (by kernel_rfl)
  rw [← hs,q,← f30_p17e0 yy.1.1 yy.1.2.1 yy.1.2.2.1 yy.1.2.2.2.1 yy.1.2.2.2.2.1 yy.1.2.2.2.2.2.1 yy.1.2.2.2.2.2.2.1 yy.1.2.2.2.2.2.2.2.1 yy.1.2.2.2.2.2.2.2.2.1 yy.1.2.2.2.2.2.2.2.2.2.1 yy.1.2.2.2.2.2.2.2.2.2.2.1 K]
  exact h
def f30_G0 : List TV→List Entry→(TV→List Entry→Prop)→Prop:=fun tm hp K=>getS [.v (.pagg [.int .i64,.int .i64,.int .i64,.int .i64,.int .i64,.int .i64,.int .i64,.int .i64,.int .i64,.int .i64,.int .i64])] [] tm hp fun (xx : ((Int×(Int×(Int×(Int×(Int×(Int×(Int×(Int×(Int×(Int×(Int×Unit)))))))))))×Unit)) (yy : Unit)=>f30 xx.1.1 xx.1.2.1 xx.1.2.2.1 xx.1.2.2.2.1 xx.1.2.2.2.2.1 xx.1.2.2.2.2.2.1 xx.1.2.2.2.2.2.2.1 xx.1.2.2.2.2.2.2.2.1 xx.1.2.2.2.2.2.2.2.2.1 xx.1.2.2.2.2.2.2.2.2.2.1 xx.1.2.2.2.2.2.2.2.2.2.2.1 (fun n0_3=>K (I n0_3) [])
theorem f30_eq (n_56 n_57 : Int) (n_58 n_59 : Int) (n_60 n_61 : Int) (n_62 n_63 : Int) (n_64 n_65 n_66 : Int) (K : TV→List Entry→Prop) : (f30_d n_56 n_57 n_58 n_59 n_60 n_61 n_62 n_63 n_64 n_65 n_66 (fun n0_3=>K (I n0_3) [])) = funcT f30_C Tryz.f30 [.w (.pagg [pI n_56,pI n_57,pI n_58,pI n_59,pI n_60,pI n_61,pI n_62,pI n_63,pI n_64,pI n_65,pI n_66])] [] K:=by kernel_rfl
set_option maxHeartbeats 4000000 in
theorem f30_ok0 : FnOk Tryz.prog glob 30 f30_G0:=by
  refine FnOk.of_text (C:=f30_C) tab_ok.ok (Known.add f70_G_ok (Known.add f69_G_ok (Known.add f68_G_ok (Known.add f67_G_ok (Known.none))))) follows_ok (fn:=Tryz.f30) (by kernel_rfl) (by kernel_rfl) (by kernel_rfl) (fun c hc=>?_) fun tm hp K h=>?_
  · have e : c = bodyOf Tryz.f30:=Option.some.inj (hc.symm.trans (by kernel_rfl))
    subst e
    exact ⟨LoopsOk.of [bd Tryz.f30 0] (by kernel_rfl) ⟨f30_p20_ok,trivial⟩,TailsOk.of (tab:=f30_tab) rfl [nthC (tails (bodyOf Tryz.f30)) 8] (by kernel_rfl) ⟨f30_p17_ok,trivial⟩⟩
  · unfold f30_G0 at h
    obtain ⟨xx,yy,rfl,rfl,h⟩:=getS_elim h
    have e:=(f30_eq xx.1.1 xx.1.2.1 xx.1.2.2.1 xx.1.2.2.2.1 xx.1.2.2.2.2.1 xx.1.2.2.2.2.2.1 xx.1.2.2.2.2.2.2.1 xx.1.2.2.2.2.2.2.2.1 xx.1.2.2.2.2.2.2.2.2.1 xx.1.2.2.2.2.2.2.2.2.2.1 xx.1.2.2.2.2.2.2.2.2.2.2.1 K).trans (show _ = funcT f30_C Tryz.f30 (mkR _ xx) (mkE _ yy) K by kernel_rfl)
    rw [← e]
    exact h.run
abbrev f30_G:=f30_G0
theorem f30_G_ok : FnOk Tryz.prog glob 30 f30_G:=f30_ok0
def f73_d (n1 n2 : Int) (n3 n4 : Int) (n5 n6 : Int) (n7 n8 : Int) (n9 n10 n11 : Int) (k0 : Bool→Prop) : Prop:=bB (!((n6 == 0) && ((n7 == 0) && ((n8 == 0) && true)))) (k0 true) (k0 (!((n9 == 0) && ((n10 == 0) && ((n11 == 0) && true)))))
structure f73 (n1 n2 : Int) (n3 n4 : Int) (n5 n6 : Int) (n7 n8 : Int) (n9 n10 n11 : Int) (k0 : Bool→Prop) : Prop where
  run : f73_d n1 n2 n3 n4 n5 n6 n7 n8 n9 n10 n11 k0
def f73_tab : List (Nat×Told):=[]
def f73_call : FuncId→List TV→List Entry→(TV→List Entry→Prop)→Prop:=noCalls
def f73_C : Ctx:=mkC [] [] [] [] [] false 0 true (lookL f73_tab) f73_call
def f73_G0 : List TV→List Entry→(TV→List Entry→Prop)→Prop:=fun tm hp K=>getS [.v (.pagg [.int .i64,.int .i64,.int .i64,.int .i64,.int .i64,.int .i64,.int .i64,.int .i64,.int .i64,.int .i64,.int .i64])] [] tm hp fun (xx : ((Int×(Int×(Int×(Int×(Int×(Int×(Int×(Int×(Int×(Int×(Int×Unit)))))))))))×Unit)) (yy : Unit)=>f73 xx.1.1 xx.1.2.1 xx.1.2.2.1 xx.1.2.2.2.1 xx.1.2.2.2.2.1 xx.1.2.2.2.2.2.1 xx.1.2.2.2.2.2.2.1 xx.1.2.2.2.2.2.2.2.1 xx.1.2.2.2.2.2.2.2.2.1 xx.1.2.2.2.2.2.2.2.2.2.1 xx.1.2.2.2.2.2.2.2.2.2.2.1 (fun b0_0=>K (B b0_0) [])
theorem f73_eq (n_1 n_2 : Int) (n_3 n_4 : Int) (n_5 n_6 : Int) (n_7 n_8 : Int) (n_9 n_10 n_11 : Int) (K : TV→List Entry→Prop) : (f73_d n_1 n_2 n_3 n_4 n_5 n_6 n_7 n_8 n_9 n_10 n_11 (fun b0_0=>K (B b0_0) [])) = funcT f73_C Tryz.f73 [.w (.pagg [pI n_1,pI n_2,pI n_3,pI n_4,pI n_5,pI n_6,pI n_7,pI n_8,pI n_9,pI n_10,pI n_11])] [] K:=by kernel_rfl
set_option maxHeartbeats 4000000 in
theorem f73_ok0 : FnOk Tryz.prog glob 73 f73_G0:=by
  refine FnOk.of_text (C:=f73_C) tab_ok.ok (Known.none) follows_ok (fn:=Tryz.f73) (by kernel_rfl) (by kernel_rfl) (by kernel_rfl) (fun c hc=>?_) fun tm hp K h=>?_
  · have e : c = bodyOf Tryz.f73:=Option.some.inj (hc.symm.trans (by kernel_rfl))
    subst e
    exact ⟨LoopsOk.of [] (by kernel_rfl) trivial,TailsOk.of (tab:=f73_tab) rfl [] (by kernel_rfl) trivial⟩
  · unfold f73_G0 at h
    obtain ⟨xx,yy,rfl,rfl,h⟩:=getS_elim h
    have e:=(f73_eq xx.1.1 xx.1.2.1 xx.1.2.2.1 xx.1.2.2.2.1 xx.1.2.2.2.2.1 xx.1.2.2.2.2.2.1 xx.1.2.2.2.2.2.2.1 xx.1.2.2.2.2.2.2.2.1 xx.1.2.2.2.2.2.2.2.2.1 xx.1.2.2.2.2.2.2.2.2.2.1 xx.1.2.2.2.2.2.2.2.2.2.2.1 K).trans (show _ = funcT f73_C Tryz.f73 (mkR _ xx) (mkE _ yy) K by kernel_rfl)
    rw [← e]
    exact h.run
abbrev f73_G:=f73_G0
theorem f73_G_ok : FnOk Tryz.prog glob 73 f73_G:=f73_ok0
def f74_d (n1 n2 n3 : Int) (k0 : Bool→Prop) : Prop:=bB (decide (n1≥n2)) (k0 (decide (n1≤n3))) (k0 false)
structure f74 (n1 n2 n3 : Int) (k0 : Bool→Prop) : Prop where
  run : f74_d n1 n2 n3 k0
def f74_tab : List (Nat×Told):=[]
def f74_call : FuncId→List TV→List Entry→(TV→List Entry→Prop)→Prop:=noCalls
def f74_C : Ctx:=mkC [] [] [] [] [] false 0 true (lookL f74_tab) f74_call
def f74_G0 : List TV→List Entry→(TV→List Entry→Prop)→Prop:=fun tm hp K=>getS [.v (.one (.int .i64)),.v (.one (.int .i64)),.v (.one (.int .i64))] [] tm hp fun (xx : (Int×(Int×(Int×Unit)))) (yy : Unit)=>f74 xx.1 xx.2.1 xx.2.2.1 (fun b0_0=>K (B b0_0) [])
theorem f74_eq (n_1 n_2 n_3 : Int) (K : TV→List Entry→Prop) : (f74_d n_1 n_2 n_3 (fun b0_0=>K (B b0_0) [])) = funcT f74_C Tryz.f74 [I n_1,I n_2,I n_3] [] K:=by kernel_rfl
set_option maxHeartbeats 4000000 in
theorem f74_ok0 : FnOk Tryz.prog glob 74 f74_G0:=by
  refine FnOk.of_text (C:=f74_C) tab_ok.ok (Known.none) follows_ok (fn:=Tryz.f74) (by kernel_rfl) (by kernel_rfl) (by kernel_rfl) (fun c hc=>?_) fun tm hp K h=>?_
  · have e : c = bodyOf Tryz.f74:=Option.some.inj (hc.symm.trans (by kernel_rfl))
    subst e
    exact ⟨LoopsOk.of [] (by kernel_rfl) trivial,TailsOk.of (tab:=f74_tab) rfl [] (by kernel_rfl) trivial⟩
  · unfold f74_G0 at h
    obtain ⟨xx,yy,rfl,rfl,h⟩:=getS_elim h
    have e:=(f74_eq xx.1 xx.2.1 xx.2.2.1 K).trans (show _ = funcT f74_C Tryz.f74 (mkR _ xx) (mkE _ yy) K by kernel_rfl)
    rw [← e]
    exact h.run
abbrev f74_G:=f74_G0
theorem f74_G_ok : FnOk Tryz.prog glob 74 f74_G:=f74_ok0
def f32_p23 (n34 n35 : Int) (n36 n37 : Int) (n38 n39 : Int) (n40 n41 : Int) (n42 n43 n44 : Int) (k0 : Int→Prop) : Prop:=bB (!((n42 == 0) && ((n43 == 0) && ((n44 == 0) && true)))) (f75 n42 n43 n44 (fun n45=>bB (n45 != 0) (k0 n45) (bB (!((n39 == 0) && ((n40 == 0) && ((n41 == 0) && true)))) (f76 n39 n40 n41 (fun n46=>f76 n42 n43 n44 (fun n47=>bB (decide (n46 > n47)) (k0 6) (k0 0)))) (k0 0)))) (k0 0)
def f32_p15 (n22 n23 : Int) (n24 n25 : Int) (n26 n27 : Int) (n28 n29 : Int) (n30 n31 n32 : Int) (k0 : Int→Prop) : Prop:=bB (!((n27 == 0) && ((n28 == 0) && ((n29 == 0) && true)))) (f75 n27 n28 n29 (fun n33=>bB (n33 != 0) (k0 n33) (f32_p23 n22 n23 n24 n25 n26 n27 n28 n29 n30 n31 n32 k0))) (f32_p23 n22 n23 n24 n25 n26 n27 n28 n29 n30 n31 n32 k0)
def f32_d (n1 n2 : Int) (n3 n4 : Int) (n5 n6 : Int) (n7 n8 : Int) (n9 n10 n11 : Int) (k0 : Int→Prop) : Prop:=f73 n1 n2 n3 n4 n5 n6 n7 n8 n9 n10 n11 (fun b12=>bB (!b12) (bB (n1 != 0) (f74 n1 2000 2199 (fun b13=>bB (!b13) (k0 6) (f74 n2 0 14 (fun b14=>bB (!b14) (k0 6) (f74 n3 0 34 (fun b15=>bB (!b15) (k0 6) (f74 n4 0 7 (fun b16=>bB (!b16) (k0 6) (f74 n5 0 6 (fun b17=>bB (!b17) (k0 6) (k0 0))))))))))) (f74 n2 0 14 (fun b18=>bB (!b18) (k0 6) (f74 n3 0 34 (fun b19=>bB (!b19) (k0 6) (f74 n4 0 7 (fun b20=>bB (!b20) (k0 6) (f74 n5 0 6 (fun b21=>bB (!b21) (k0 6) (k0 0)))))))))) (bB (n1 != 0) (k0 10) (bB (n2 != 0) (k0 10) (bB (n3 != 0) (k0 10) (bB (n4 != 0) (k0 10) (bB (n5 != 0) (k0 10) (f32_p15 n1 n2 n3 n4 n5 n6 n7 n8 n9 n10 n11 k0)))))))
structure f32 (n1 n2 : Int) (n3 n4 : Int) (n5 n6 : Int) (n7 n8 : Int) (n9 n10 n11 : Int) (k0 : Int→Prop) : Prop where
  run : f32_d n1 n2 n3 n4 n5 n6 n7 n8 n9 n10 n11 k0
def f32_p23L : Told:=fun s K=>match s with
  | ⟨tm,hp⟩=>getS [.skip 1,.v (.one (.ptr 0 0 0)),.skip 95] [.box [.int .i64,.int .i64,.int .i64,.int .i64,.int .i64,.int .i64,.int .i64,.int .i64,.int .i64,.int .i64,.int .i64]] tm hp fun (xx : (Unit×(Unit×(Unit×Unit)))) (yy : ((Int×(Int×(Int×(Int×(Int×(Int×(Int×(Int×(Int×(Int×(Int×Unit)))))))))))×Unit))=>f32_p23 yy.1.1 yy.1.2.1 yy.1.2.2.1 yy.1.2.2.2.1 yy.1.2.2.2.2.1 yy.1.2.2.2.2.2.1 yy.1.2.2.2.2.2.2.1 yy.1.2.2.2.2.2.2.2.1 yy.1.2.2.2.2.2.2.2.2.1 yy.1.2.2.2.2.2.2.2.2.2.1 yy.1.2.2.2.2.2.2.2.2.2.2.1 (fun n0_0=>K .ret ⟨mkS 97 [(2,I n0_0)],[]⟩)
def f32_p15L : Told:=fun s K=>match s with
  | ⟨tm,hp⟩=>getS [.skip 1,.v (.one (.ptr 0 0 0)),.skip 95] [.box [.int .i64,.int .i64,.int .i64,.int .i64,.int .i64,.int .i64,.int .i64,.int .i64,.int .i64,.int .i64,.int .i64]] tm hp fun (xx : (Unit×(Unit×(Unit×Unit)))) (yy : ((Int×(Int×(Int×(Int×(Int×(Int×(Int×(Int×(Int×(Int×(Int×Unit)))))))))))×Unit))=>f32_p15 yy.1.1 yy.1.2.1 yy.1.2.2.1 yy.1.2.2.2.1 yy.1.2.2.2.2.1 yy.1.2.2.2.2.2.1 yy.1.2.2.2.2.2.2.1 yy.1.2.2.2.2.2.2.2.1 yy.1.2.2.2.2.2.2.2.2.1 yy.1.2.2.2.2.2.2.2.2.2.1 yy.1.2.2.2.2.2.2.2.2.2.2.1 (fun n0_1=>K .ret ⟨mkS 97 [(2,I n0_1)],[]⟩)
def f32_tab : List (Nat×Told):=[(23,f32_p23L),(15,f32_p15L)]
def f32_call : FuncId→List TV→List Entry→(TV→List Entry→Prop)→Prop:=addCall 76 f76_G (addCall 75 f75_G (addCall 74 f74_G (addCall 73 f73_G (noCalls))))
def f32_C : Ctx:=mkC [(23,[(0,[1]),(1,[2]),(2,[2])]),(15,[(0,[1]),(1,[2]),(2,[2])])] [] [] [] [] false 0 true (lookL f32_tab) f32_call
theorem f32_p23e0 (n_3 n_4 : Int) (n_5 n_6 : Int) (n_7 n_8 : Int) (n_9 n_10 : Int) (n_11 n_12 n_13 : Int) (K : TExit→St→Prop) : (f32_p23 n_3 n_4 n_5 n_6 n_7 n_8 n_9 n_10 n_11 n_12 n_13 (fun n0_14=>K .ret ⟨mkS 97 [(2,I n0_14)],[]⟩)) = execT f32_C (nthC (tails (bodyOf Tryz.f32)) 10) ⟨mkS 97 [(1,.w (.one (.ptr 0 0 0)))],[.box [.p (pI n_3),.p (pI n_4),.p (pI n_5),.p (pI n_6),.p (pI n_7),.p (pI n_8),.p (pI n_9),.p (pI n_10),.p (pI n_11),.p (pI n_12),.p (pI n_13)]]⟩ (fun e s=>K e (normOut f32_C 23 e s)):=by kernel_rfl
theorem f32_p15e0 (n_15 n_16 : Int) (n_17 n_18 : Int) (n_19 n_20 : Int) (n_21 n_22 : Int) (n_23 n_24 n_25 : Int) (K : TExit→St→Prop) : (f32_p15 n_15 n_16 n_17 n_18 n_19 n_20 n_21 n_22 n_23 n_24 n_25 (fun n0_26=>K .ret ⟨mkS 97 [(2,I n0_26)],[]⟩)) = execT f32_C (nthC (tails (bodyOf Tryz.f32)) 7) ⟨mkS 97 [(1,.w (.one (.ptr 0 0 0)))],[.box [.p (pI n_15),.p (pI n_16),.p (pI n_17),.p (pI n_18),.p (pI n_19),.p (pI n_20),.p (pI n_21),.p (pI n_22),.p (pI n_23),.p (pI n_24),.p (pI n_25)]]⟩ (fun e s=>K e (normOut f32_C 15 e s)):=by kernel_rfl
set_option maxHeartbeats 4000000 in
theorem f32_p23_ok : TailOk f32_C (nthC (tails (bodyOf Tryz.f32)) 10):=by
  refine TailOk.of f32_p23L (by kernel_rfl) fun σ K h=>?_
  have hk : joinKey (nthC (tails (bodyOf Tryz.f32)) 10) = 23:=by kernel_rfl
  rw [hk] at h ⊢
  generalize hs : normK f32_C 23 σ = s at h
  obtain ⟨tm,hp⟩:=s
  unfold f32_p23L at h
  dsimp only at h
  obtain ⟨xx,yy,rfl,rfl,h⟩:=getS_elim h
  have q : normK f32_C 23 σ = (⟨mkS 97 [(1,.w (.one (.ptr 0 0 0)))],[.box [.p (pI yy.1.1),.p (pI yy.1.2.1),.p (pI yy.1.2.2.1),.p (pI yy.1.2.2.2.1),.p (pI yy.1.2.2.2.2.1),.p (pI yy.1.2.2.2.2.2.1),.p (pI yy.1.2.2.2.2.2.2.1),.p (pI yy.1.2.2.2.2.2.2.2.1),.p (pI yy.1.2.2.2.2.2.2.2.2.1),.p (pI yy.1.2.2.2.2.2.2.2.2.2.1),.p (pI yy.1.2.2.2.2.2.2.2.2.2.2.1)]]⟩ : St):=hs.trans (by kernel_rfl)
  rw [← hs,q,← f32_p23e0 yy.1.1 yy.1.2.1 yy.1.2.2.1 yy.1.2.2.2.1 yy.1.2.2.2.2.1 yy.1.2.2.2.2.2.1 yy.1.2.2.2.2.2.2.1 yy.1.2.2.2.2.2.2.2.1 yy.1.2.2.2.2.2.2.2.2.1 yy.1.2.2.2.2.2.2.2.2.2.1 yy.1.2.2.2.2.2.2.2.2.2.2.1 K]
  exact h
set_option maxHeartbeats 4000000 in
theorem f32_p15_ok : TailOk f32_C (nthC (tails (bodyOf Tryz.f32)) 7):=by
  refine TailOk.of f32_p15L (by kernel_rfl) fun σ K h=>?_
  have hk : joinKey (nthC (tails (bodyOf Tryz.f32)) 7) = 15:=by kernel_rfl
  rw [hk] at h ⊢
  generalize hs : normK f32_C 15 σ = s at h
  obtain ⟨tm,hp⟩:=s
  unfold f32_p15L at h
  dsimp only at h
  obtain ⟨xx,yy,rfl,rfl,h⟩:=getS_elim h
  have q : normK f32_C 15 σ = (⟨mkS 97 [(1,.w (.one (.ptr 0 0 0)))],[.box [.p (pI yy.1.1),.p (pI yy.1.2.1),.p (pI yy.1.2.2.1),.p (pI yy.1.2.2.2.1),.p (pI yy.1.2.2.2.2.1),.p (pI yy.1.2.2.2.2.2.1),.p (pI yy.1.2.2.2.2.2.2.1),.p (pI yy.1.2.2.2.2.2.2.2.1),.p (pI yy.1.2.2.2.2.2.2.2.2.1),.p (pI yy.1.2.2.2.2.2.2.2.2.2.1),.p (pI yy.1.2.2.2.2.2.2.2.2.2.2.1)]]⟩ : St):=hs.trans (by kernel_rfl)
  rw [← hs,q,← f32_p15e0 yy.1.1 yy.1.2.1 yy.1.2.2.1 yy.1.2.2.2.1 yy.1.2.2.2.2.1 yy.1.2.2.2.2.2.1 yy.1.2.2.2.2.2.2.1 yy.1.2.2.2.2.2.2.2.1 yy.1.2.2.2.2.2.2.2.2.1 yy.1.2.2.2.2.2.2.2.2.2.1 yy.1.2.2.2.2.2.2.2.2.2.2.1 K]
  exact h
def f32_G0 : List TV→List Entry→(TV→List Entry→Prop)→Prop:=fun tm hp K=>getS [.v (.pagg [.int .i64,.int .i64,.int .i64,.int .i64,.int .i64,.int .i64,.int .i64,.int .i64,.int .i64,.int .i64,.int .i64])] [] tm hp fun (xx : ((Int×(Int×(Int×(Int×(Int×(Int×(Int×(Int×(Int×(Int×(Int×Unit)))))))))))×Unit)) (yy : Unit)=>f32 xx.1.1 xx.1.2.1 xx.1.2.2.1 xx.1.2.2.2.1 xx.1.2.2.2.2.1 xx.1.2.2.2.2.2.1 xx.1.2.2.2.2.2.2.1 xx.1.2.2.2.2.2.2.2.1 xx.1.2.2.2.2.2.2.2.2.1 xx.1.2.2.2.2.2.2.2.2.2.1 xx.1.2.2.2.2.2.2.2.2.2.2.1 (fun n0_2=>K (I n0_2) [])
theorem f32_eq (n_27 n_28 : Int) (n_29 n_30 : Int) (n_31 n_32 : Int) (n_33 n_34 : Int) (n_35 n_36 n_37 : Int) (K : TV→List Entry→Prop) : (f32_d n_27 n_28 n_29 n_30 n_31 n_32 n_33 n_34 n_35 n_36 n_37 (fun n0_2=>K (I n0_2) [])) = funcT f32_C Tryz.f32 [.w (.pagg [pI n_27,pI n_28,pI n_29,pI n_30,pI n_31,pI n_32,pI n_33,pI n_34,pI n_35,pI n_36,pI n_37])] [] K:=by kernel_rfl
set_option maxHeartbeats 4000000 in
theorem f32_ok0 : FnOk Tryz.prog glob 32 f32_G0:=by
  refine FnOk.of_text (C:=f32_C) tab_ok.ok (Known.add f76_G_ok (Known.add f75_G_ok (Known.add f74_G_ok (Known.add f73_G_ok (Known.none))))) follows_ok (fn:=Tryz.f32) (by kernel_rfl) (by kernel_rfl) (by kernel_rfl) (fun c hc=>?_) fun tm hp K h=>?_
  · have e : c = bodyOf Tryz.f32:=Option.some.inj (hc.symm.trans (by kernel_rfl))
    subst e
    exact ⟨LoopsOk.of [] (by kernel_rfl) trivial,TailsOk.of (tab:=f32_tab) rfl [nthC (tails (bodyOf Tryz.f32)) 7,nthC (tails (bodyOf Tryz.f32)) 10] (by kernel_rfl) ⟨f32_p15_ok,f32_p23_ok,trivial⟩⟩
  · unfold f32_G0 at h
    obtain ⟨xx,yy,rfl,rfl,h⟩:=getS_elim h
    have e:=(f32_eq xx.1.1 xx.1.2.1 xx.1.2.2.1 xx.1.2.2.2.1 xx.1.2.2.2.2.1 xx.1.2.2.2.2.2.1 xx.1.2.2.2.2.2.2.1 xx.1.2.2.2.2.2.2.2.1 xx.1.2.2.2.2.2.2.2.2.1 xx.1.2.2.2.2.2.2.2.2.2.1 xx.1.2.2.2.2.2.2.2.2.2.2.1 K).trans (show _ = funcT f32_C Tryz.f32 (mkR _ xx) (mkE _ yy) K by kernel_rfl)
    rw [← e]
    exact h.run
abbrev f32_G:=f32_G0
theorem f32_G_ok : FnOk Tryz.prog glob 32 f32_G:=f32_ok0
def f84_d (n1 n2 : Int) (n3 n4 : Int) (k0 : Bool→Prop) : Prop:=bB (n1 == n2) ((2 : Int)≠0∧bB ((Int.tmod n4 2) == 1) (k0 true) (bB (n1 == n3) ((2 : Int)≠0∧k0 ((Int.tmod n4 2) == 0)) (k0 false))) (bB (n1 == n3) ((2 : Int)≠0∧k0 ((Int.tmod n4 2) == 0)) (k0 false))
structure f84 (n1 n2 : Int) (n3 n4 : Int) (k0 : Bool→Prop) : Prop where
  run : f84_d n1 n2 n3 n4 k0
def f84_tab : List (Nat×Told):=[]
def f84_call : FuncId→List TV→List Entry→(TV→List Entry→Prop)→Prop:=noCalls
def f84_C : Ctx:=mkC [] [] [] [] [] false 0 true (lookL f84_tab) f84_call
def f84_G0 : List TV→List Entry→(TV→List Entry→Prop)→Prop:=fun tm hp K=>getS [.v (.one (.int .i64)),.v (.one (.int .i64)),.v (.one (.int .i64)),.v (.one (.int .i64))] [] tm hp fun (xx : (Int×(Int×(Int×(Int×Unit))))) (yy : Unit)=>f84 xx.1 xx.2.1 xx.2.2.1 xx.2.2.2.1 (fun b0_0=>K (B b0_0) [])
theorem f84_eq (n_1 n_2 : Int) (n_3 n_4 : Int) (K : TV→List Entry→Prop) : (f84_d n_1 n_2 n_3 n_4 (fun b0_0=>K (B b0_0) [])) = funcT f84_C Tryz.f84 [I n_1,I n_2,I n_3,I n_4] [] K:=by kernel_rfl
set_option maxHeartbeats 4000000 in
theorem f84_ok0 : FnOk Tryz.prog glob 84 f84_G0:=by
  refine FnOk.of_text (C:=f84_C) tab_ok.ok (Known.none) follows_ok (fn:=Tryz.f84) (by kernel_rfl) (by kernel_rfl) (by kernel_rfl) (fun c hc=>?_) fun tm hp K h=>?_
  · have e : c = bodyOf Tryz.f84:=Option.some.inj (hc.symm.trans (by kernel_rfl))
    subst e
    exact ⟨LoopsOk.of [] (by kernel_rfl) trivial,TailsOk.of (tab:=f84_tab) rfl [] (by kernel_rfl) trivial⟩
  · unfold f84_G0 at h
    obtain ⟨xx,yy,rfl,rfl,h⟩:=getS_elim h
    have e:=(f84_eq xx.1 xx.2.1 xx.2.2.1 xx.2.2.2.1 K).trans (show _ = funcT f84_C Tryz.f84 (mkR _ xx) (mkE _ yy) K by kernel_rfl)
    rw [← e]
    exact h.run
abbrev f84_G:=f84_G0
theorem f84_G_ok : FnOk Tryz.prog glob 84 f84_G:=f84_ok0
def f38_p21 (n54 n55 : Int) (n56 n57 : Int) (n58 n59 : Int) (n60 n61 : Int) (n62 n63 : Int) (n64 n65 : Int) (n66 n67 n68 : Int) (k0 : Bool→Prop) : Prop:=bB (n59 == 0) (k0 true) ((7 : Int)≠0∧bB (n59 == (w64 (Int.tdiv (w64 (n68 + 6)) 7))) (k0 true) (bB (n59 == 6) (k0 (decide (n68 > (w64 (n54 - 7))))) (k0 false)))
def f38_p17 (n38 n39 : Int) (n40 n41 : Int) (n42 n43 : Int) (n44 n45 : Int) (n46 n47 : Int) (n48 n49 : Int) (n50 n51 n52 : Int) (k0 : Bool→Prop) : Prop:=bB (n41 != 0) (bB (n41 != n52) (f84 n41 33 34 n52 (fun b53=>bB (!b53) (bB (n41 == 32) (bB (!(n52 == n38)) (k0 false) (f38_p21 n38 n39 n40 n41 n42 n43 n44 n45 n46 n47 n48 n49 n50 n51 n52 k0)) (k0 false)) (f38_p21 n38 n39 n40 n41 n42 n43 n44 n45 n46 n47 n48 n49 n50 n51 n52 k0))) (f38_p21 n38 n39 n40 n41 n42 n43 n44 n45 n46 n47 n48 n49 n50 n51 n52 k0)) (f38_p21 n38 n39 n40 n41 n42 n43 n44 n45 n46 n47 n48 n49 n50 n51 n52 k0)
def f38_p13 (n22 n23 : Int) (n24 n25 : Int) (n26 n27 : Int) (n28 n29 : Int) (n30 n31 : Int) (n32 n33 : Int) (n34 n35 n36 : Int) (k0 : Bool→Prop) : Prop:=bB (n24 != 0) (bB (n24 != n35) (f84 n24 13 14 n35 (fun b37=>bB (!b37) (k0 false) (f38_p17 n22 n23 n24 n25 n26 n27 n28 n29 n30 n31 n32 n33 n34 n35 n36 k0))) (f38_p17 n22 n23 n24 n25 n26 n27 n28 n29 n30 n31 n32 n33 n34 n35 n36 k0)) (f38_p17 n22 n23 n24 n25 n26 n27 n28 n29 n30 n31 n32 n33 n34 n35 n36 k0)
def f38_d (n1 n2 : Int) (n3 n4 : Int) (n5 n6 : Int) (n7 n8 : Int) (n9 n10 : Int) (n11 n12 : Int) (n13 n14 n15 : Int) (k0 : Bool→Prop) : Prop:=f73 n1 n2 n3 n4 n5 n6 n7 n8 n9 n10 n11 (fun b16=>bB b16 (bB ((n6 == 0) && ((n7 == 0) && ((n8 == 0) && true))) (bB ((n9 == 0) && ((n10 == 0) && ((n11 == 0) && true))) (k0 true) (f76 n9 n10 n11 (fun n17=>k0 (decide (n12≤n17))))) (f76 n6 n7 n8 (fun n18=>bB (decide (n12≥n18)) (bB ((n9 == 0) && ((n10 == 0) && ((n11 == 0) && true))) (k0 true) (f76 n9 n10 n11 (fun n19=>k0 (decide (n12≤n19))))) (k0 false)))) (f82 n13 n14 (fun n20=>bB (n1 != 0) (bB (n1 != n13) (k0 false) (bB (n4 != 0) (f83 n12 (fun n21=>bB (n4 != n21) (k0 false) (f38_p13 n20 n1 n2 n3 n4 n5 n6 n7 n8 n9 n10 n11 n13 n14 n15 k0))) (f38_p13 n20 n1 n2 n3 n4 n5 n6 n7 n8 n9 n10 n11 n13 n14 n15 k0))) (bB (n4 != 0) (f83 n12 (fun n78=>bB (n4 != n78) (k0 false) (f38_p13 n20 n1 n2 n3 n4 n5 n6 n7 n8 n9 n10 n11 n13 n14 n15 k0))) (f38_p13 n20 n1 n2 n3 n4 n5 n6 n7 n8 n9 n10 n11 n13 n14 n15 k0)))))
structure f38 (n1 n2 : Int) (n3 n4 : Int) (n5 n6 : Int) (n7 n8 : Int) (n9 n10 : Int) (n11 n12 : Int) (n13 n14 n15 : Int) (k0 : Bool→Prop) : Prop where
  run : f38_d n1 n2 n3 n4 n5 n6 n7 n8 n9 n10 n11 n12 n13 n14 n15 k0
def f38_p21L : Told:=fun s K=>match s with
  | ⟨tm,hp⟩=>getS [.skip 3,.v (.one (.ptr 0 0 0)),.skip 1,.v (.one (.ptr 1 0 0)),.skip 1,.v (.one (.int .i64)),.skip 125] [.box [.int .i64,.int .i64,.int .i64,.int .i64,.int .i64,.int .i64,.int .i64,.int .i64,.int .i64,.int .i64,.int .i64],.box [.int .i64,.int .i64,.int .i64]] tm hp fun (xx : (Unit×(Unit×(Unit×(Unit×(Unit×(Int×(Unit×Unit)))))))) (yy : ((Int×(Int×(Int×(Int×(Int×(Int×(Int×(Int×(Int×(Int×(Int×Unit)))))))))))×((Int×(Int×(Int×Unit)))×Unit)))=>f38_p21 xx.2.2.2.2.2.1 yy.1.1 yy.1.2.1 yy.1.2.2.1 yy.1.2.2.2.1 yy.1.2.2.2.2.1 yy.1.2.2.2.2.2.1 yy.1.2.2.2.2.2.2.1 yy.1.2.2.2.2.2.2.2.1 yy.1.2.2.2.2.2.2.2.2.1 yy.1.2.2.2.2.2.2.2.2.2.1 yy.1.2.2.2.2.2.2.2.2.2.2.1 yy.2.1.1 yy.2.1.2.1 yy.2.1.2.2.1 (fun b0_0=>K .ret ⟨mkS 133 [(6,B b0_0)],[]⟩)
def f38_p17L : Told:=fun s K=>match s with
  | ⟨tm,hp⟩=>getS [.skip 3,.v (.one (.ptr 0 0 0)),.skip 1,.v (.one (.ptr 1 0 0)),.skip 1,.v (.one (.int .i64)),.skip 125] [.box [.int .i64,.int .i64,.int .i64,.int .i64,.int .i64,.int .i64,.int .i64,.int .i64,.int .i64,.int .i64,.int .i64],.box [.int .i64,.int .i64,.int .i64]] tm hp fun (xx : (Unit×(Unit×(Unit×(Unit×(Unit×(Int×(Unit×Unit)))))))) (yy : ((Int×(Int×(Int×(Int×(Int×(Int×(Int×(Int×(Int×(Int×(Int×Unit)))))))))))×((Int×(Int×(Int×Unit)))×Unit)))=>f38_p17 xx.2.2.2.2.2.1 yy.1.1 yy.1.2.1 yy.1.2.2.1 yy.1.2.2.2.1 yy.1.2.2.2.2.1 yy.1.2.2.2.2.2.1 yy.1.2.2.2.2.2.2.1 yy.1.2.2.2.2.2.2.2.1 yy.1.2.2.2.2.2.2.2.2.1 yy.1.2.2.2.2.2.2.2.2.2.1 yy.1.2.2.2.2.2.2.2.2.2.2.1 yy.2.1.1 yy.2.1.2.1 yy.2.1.2.2.1 (fun b0_1=>K .ret ⟨mkS 133 [(6,B b0_1)],[]⟩)
def f38_p13L : Told:=fun s K=>match s with
  | ⟨tm,hp⟩=>getS [.skip 3,.v (.one (.ptr 0 0 0)),.skip 1,.v (.one (.ptr 1 0 0)),.skip 1,.v (.one (.int .i64)),.skip 125] [.box [.int .i64,.int .i64,.int .i64,.int .i64,.int .i64,.int .i64,.int .i64,.int .i64,.int .i64,.int .i64,.int .i64],.box [.int .i64,.int .i64,.int .i64]] tm hp fun (xx : (Unit×(Unit×(Unit×(Unit×(Unit×(Int×(Unit×Unit)))))))) (yy : ((Int×(Int×(Int×(Int×(Int×(Int×(Int×(Int×(Int×(Int×(Int×Unit)))))))))))×((Int×(Int×(Int×Unit)))×Unit)))=>f38_p13 xx.2.2.2.2.2.1 yy.1.1 yy.1.2.1 yy.1.2.2.1 yy.1.2.2.2.1 yy.1.2.2.2.2.1 yy.1.2.2.2.2.2.1 yy.1.2.2.2.2.2.2.1 yy.1.2.2.2.2.2.2.2.1 yy.1.2.2.2.2.2.2.2.2.1 yy.1.2.2.2.2.2.2.2.2.2.1 yy.1.2.2.2.2.2.2.2.2.2.2.1 yy.2.1.1 yy.2.1.2.1 yy.2.1.2.2.1 (fun b0_2=>K .ret ⟨mkS 133 [(6,B b0_2)],[]⟩)
def f38_tab : List (Nat×Told):=[(21,f38_p21L),(17,f38_p17L),(13,f38_p13L)]
def f38_call : FuncId→List TV→List Entry→(TV→List Entry→Prop)→Prop:=addCall 84 f84_G (addCall 83 f83_G (addCall 82 f82_G (addCall 76 f76_G (addCall 73 f73_G (noCalls)))))
def f38_C : Ctx:=mkC [(21,[(0,[3,5,7]),(1,[6]),(2,[6])]),(17,[(0,[3,5,7]),(1,[6]),(2,[6])]),(13,[(0,[3,5,7]),(1,[6]),(2,[6])])] [] [] [] [] false 0 true (lookL f38_tab) f38_call
theorem f38_p21e0 (n_4 n_5 : Int) (n_6 n_7 : Int) (n_8 n_9 : Int) (n_10 n_11 : Int) (n_12 n_13 : Int) (n_14 n_15 : Int) (n_16 n_17 n_18 : Int) (K : TExit→St→Prop) : (f38_p21 n_4 n_5 n_6 n_7 n_8 n_9 n_10 n_11 n_12 n_13 n_14 n_15 n_16 n_17 n_18 (fun b0_19=>K .ret ⟨mkS 133 [(6,B b0_19)],[]⟩)) = execT f38_C (nthC (tails (bodyOf Tryz.f38)) 11) ⟨mkS 133 [(3,.w (.one (.ptr 0 0 0))),(5,.w (.one (.ptr 1 0 0))),(7,I n_4)],[.box [.p (pI n_5),.p (pI n_6),.p (pI n_7),.p (pI n_8),.p (pI n_9),.p (pI n_10),.p (pI n_11),.p (pI n_12),.p (pI n_13),.p (pI n_14),.p (pI n_15)],.box [.p (pI n_16),.p (pI n_17),.p (pI n_18)]]⟩ (fun e s=>K e (normOut f38_C 21 e s)):=by kernel_rfl
theorem f38_p17e0 (n_20 n_21 : Int) (n_22 n_23 : Int) (n_24 n_25 : Int) (n_26 n_27 : Int) (n_28 n_29 : Int) (n_30 n_31 : Int) (n_32 n_33 n_34 : Int) (K : TExit→St→Prop) : (f38_p17 n_20 n_21 n_22 n_23 n_24 n_25 n_26 n_27 n_28 n_29 n_30 n_31 n_32 n_33 n_34 (fun b0_35=>K .ret ⟨mkS 133 [(6,B b0_35)],[]⟩)) = execT f38_C (nthC (tails (bodyOf Tryz.f38)) 8) ⟨mkS 133 [(3,.w (.one (.ptr 0 0 0))),(5,.w (.one (.ptr 1 0 0))),(7,I n_20)],[.box [.p (pI n_21),.p (pI n_22),.p (pI n_23),.p (pI n_24),.p (pI n_25),.p (pI n_26),.p (pI n_27),.p (pI n_28),.p (pI n_29),.p (pI n_30),.p (pI n_31)],.box [.p (pI n_32),.p (pI n_33),.p (pI n_34)]]⟩ (fun e s=>K e (normOut f38_C 17 e s)):=by kernel_rfl
theorem f38_p13e0 (n_36 n_37 : Int) (n_38 n_39 : Int) (n_40 n_41 : Int) (n_42 n_43 : Int) (n_44 n_45 : Int) (n_46 n_47 : Int) (n_48 n_49 n_50 : Int) (K : TExit→St→Prop) : (f38_p13 n_36 n_37 n_38 n_39 n_40 n_41 n_42 n_43 n_44 n_45 n_46 n_47 n_48 n_49 n_50 (fun b0_51=>K .ret ⟨mkS 133 [(6,B b0_51)],[]⟩)) = execT f38_C (nthC (tails (bodyOf Tryz.f38)) 5) ⟨mkS 133 [(3,.w (.one (.ptr 0 0 0))),(5,.w (.one (.ptr 1 0 0))),(7,I n_36)],[.box [.p (pI n_37),.p (pI n_38),.p (pI n_39),.p (pI n_40),.p (pI n_41),.p (pI n_42),.p (pI n_43),.p (pI n_44),.p (pI n_45),.p (pI n_46),.p (pI n_47)],.box [.p (pI n_48),.p (pI n_49),.p (pI n_50)]]⟩ (fun e s=>K e (normOut f38_C 13 e s)):=by kernel_rfl
set_option maxHeartbeats 4000000 in
theorem f38_p21_ok : TailOk f38_C (nthC (tails (bodyOf Tryz.f38)) 11):=by
  refine TailOk.of f38_p21L (by kernel_rfl) fun σ K h=>?_
  have hk : joinKey (nthC (tails (bodyOf Tryz.f38)) 11) = 21:=by kernel_rfl
  rw [hk] at h ⊢
  generalize hs : normK f38_C 21 σ = s at h
  obtain ⟨tm,hp⟩:=s
  unfold f38_p21L at h
  dsimp only at h
  obtain ⟨xx,yy,rfl,rfl,h⟩:=getS_elim h
  have q : normK f38_C 21 σ = (⟨mkS 133 [(3,.w (.one (.ptr 0 0 0))),(5,.w (.one (.ptr 1 0 0))),(7,I xx.2.2.2.2.2.1)],[.box [.p (pI yy.1.1),.p (pI yy.1.2.1),.p (pI yy.1.2.2.1),.p (pI yy.1.2.2.2.1),.p (pI yy.1.2.2.2.2.1),.p (pI yy.1.2.2.2.2.2.1),.p (pI yy.1.2.2.2.2.2.2.1),.p (pI yy.1.2.2.2.2.2.2.2.1),.p (pI yy.1.2.2.2.2.2.2.2.2.1),.p (pI yy.1.2.2.2.2.2.2.2.2.2.1),.p (pI yy.1.2.2.2.2.2.2.2.2.2.2.1)],.box [.p (pI yy.2.1.1),.p (pI yy.2.1.2.1),.p (pI yy.2.1.2.2.1)]]⟩ : St):=hs.trans (by kernel_rfl)
  rw [← hs,q,← f38_p21e0 xx.2.2.2.2.2.1 yy.1.1 yy.1.2.1 yy.1.2.2.1 yy.1.2.2.2.1 yy.1.2.2.2.2.1 yy.1.2.2.2.2.2.1 yy.1.2.2.2.2.2.2.1 yy.1.2.2.2.2.2.2.2.1 yy.1.2.2.2.2.2.2.2.2.1 yy.1.2.2.2.2.2.2.2.2.2.1 yy.1.2.2.2.2.2.2.2.2.2.2.1 yy.2.1.1 yy.2.1.2.1 yy.2.1.2.2.1 K]
  exact h
set_option maxHeartbeats 4000000 in
theorem f38_p17_ok : TailOk f38_C (nthC (tails (bodyOf Tryz.f38)) 8):=by
  refine TailOk.of f38_p17L (by kernel_rfl) fun σ K h=>?_
  have hk : joinKey (nthC (tails (bodyOf Tryz.f38)) 8) = 17:=by kernel_rfl
  rw [hk] at h ⊢
  generalize hs : normK f38_C 17 σ = s at h
  obtain ⟨tm,hp⟩:=s
  unfold f38_p17L at h
  dsimp only at h
  obtain ⟨xx,yy,rfl,rfl,h⟩:=getS_elim h
  have q : normK f38_C 17 σ = (⟨mkS 133 [(3,.w (.one (.ptr 0 0 0))),(5,.w (.one (.ptr 1 0 0))),(7,I xx.2.2.2.2.2.1)],[.box [.p (pI yy.1.1),.p (pI yy.1.2.1),.p (pI yy.1.2.2.1),.p (pI yy.1.2.2.2.1),.p (pI yy.1.2.2.2.2.1),.p (pI yy.1.2.2.2.2.2.1),.p (pI yy.1.2.2.2.2.2.2.1),.p (pI yy.1.2.2.2.2.2.2.2.1),.p (pI yy.1.2.2.2.2.2.2.2.2.1),.p (pI yy.1.2.2.2.2.2.2.2.2.2.1),.p (pI yy.1.2.2.2.2.2.2.2.2.2.2.1)],.box [.p (pI yy.2.1.1),.p (pI yy.2.1.2.1),.p (pI yy.2.1.2.2.1)]]⟩ : St):=hs.trans (by kernel_rfl)
  rw [← hs,q,← f38_p17e0 xx.2.2.2.2.2.1 yy.1.1 yy.1.2.1 yy.1.2.2.1 yy.1.2.2.2.1 yy.1.2.2.2.2.1 yy.1.2.2.2.2.2.1 yy.1.2.2.2.2.2.2.1 yy.1.2.2.2.2.2.2.2.1 yy.1.2.2.2.2.2.2.2.2.1 yy.1.2.2.2.2.2.2.2.2.2.1 yy.1.2.2.2.2.2.2.2.2.2.2.1 yy.2.1.1 yy.2.1.2.1 yy.2.1.2.2.1 K]
  exact h
set_option maxHeartbeats 4000000 in
theorem f38_p13_ok : TailOk f38_C (nthC (tails (bodyOf Tryz.f38)) 5):=by
  refine TailOk.of f38_p13L (by kernel_rfl) fun σ K h=>?_
  have hk : joinKey (nthC (tails (bodyOf Tryz.f38)) 5) = 13:=by kernel_rfl
  rw [hk] at h ⊢
  generalize hs : normK f38_C 13 σ = s at h
  obtain ⟨tm,hp⟩:=s
  unfold f38_p13L at h
  dsimp only at h
  obtain ⟨xx,yy,rfl,rfl,h⟩:=getS_elim h
  have q : normK f38_C 13 σ = (⟨mkS 133 [(3,.w (.one (.ptr 0 0 0))),(5,.w (.one (.ptr 1 0 0))),(7,I xx.2.2.2.2.2.1)],[.box [.p (pI yy.1.1),.p (pI yy.1.2.1),.p (pI yy.1.2.2.1),.p (pI yy.1.2.2.2.1),.p (pI yy.1.2.2.2.2.1),.p (pI yy.1.2.2.2.2.2.1),.p (pI yy.1.2.2.2.2.2.2.1),.p (pI yy.1.2.2.2.2.2.2.2.1),.p (pI yy.1.2.2.2.2.2.2.2.2.1),.p (pI yy.1.2.2.2.2.2.2.2.2.2.1),.p (pI yy.1.2.2.2.2.2.2.2.2.2.2.1)],.box [.p (pI yy.2.1.1),.p (pI yy.2.1.2.1),.p (pI yy.2.1.2.2.1)]]⟩ : St):=hs.trans (by kernel_rfl)
  rw [← hs,q,← f38_p13e0 xx.2.2.2.2.2.1 yy.1.1 yy.1.2.1 yy.1.2.2.1 yy.1.2.2.2.1 yy.1.2.2.2.2.1 yy.1.2.2.2.2.2.1 yy.1.2.2.2.2.2.2.1 yy.1.2.2.2.2.2.2.2.1 yy.1.2.2.2.2.2.2.2.2.1 yy.1.2.2.2.2.2.2.2.2.2.1 yy.1.2.2.2.2.2.2.2.2.2.2.1 yy.2.1.1 yy.2.1.2.1 yy.2.1.2.2.1 K]
  exact h
def f38_G0 : List TV→List Entry→(TV→List Entry→Prop)→Prop:=fun tm hp K=>getS [.v (.pagg [.int .i64,.int .i64,.int .i64,.int .i64,.int .i64,.int .i64,.int .i64,.int .i64,.int .i64,.int .i64,.int .i64]),.v (.one (.int .i64)),.v (.pagg [.int .i64,.int .i64,.int .i64])] [] tm hp fun (xx : ((Int×(Int×(Int×(Int×(Int×(Int×(Int×(Int×(Int×(Int×(Int×Unit)))))))))))×(Int×((Int×(Int×(Int×Unit)))×Unit)))) (yy : Unit)=>f38 xx.1.1 xx.1.2.1 xx.1.2.2.1 xx.1.2.2.2.1 xx.1.2.2.2.2.1 xx.1.2.2.2.2.2.1 xx.1.2.2.2.2.2.2.1 xx.1.2.2.2.2.2.2.2.1 xx.1.2.2.2.2.2.2.2.2.1 xx.1.2.2.2.2.2.2.2.2.2.1 xx.1.2.2.2.2.2.2.2.2.2.2.1 xx.2.1 xx.2.2.1.1 xx.2.2.1.2.1 xx.2.2.1.2.2.1 (fun b0_3=>K (B b0_3) [])
theorem f38_eq (n_52 n_53 : Int) (n_54 n_55 : Int) (n_56 n_57 : Int) (n_58 n_59 : Int) (n_60 n_61 : Int) (n_62 n_63 : Int) (n_64 n_65 n_66 : Int) (K : TV→List Entry→Prop) : (f38_d n_52 n_53 n_54 n_55 n_56 n_57 n_58 n_59 n_60 n_61 n_62 n_63 n_64 n_65 n_66 (fun b0_3=>K (B b0_3) [])) = funcT f38_C Tryz.f38 [.w (.pagg [pI n_52,pI n_53,pI n_54,pI n_55,pI n_56,pI n_57,pI n_58,pI n_59,pI n_60,pI n_61,pI n_62]),I n_63,.w (.pagg [pI n_64,pI n_65,pI n_66])] [] K:=by kernel_rfl
set_option maxHeartbeats 4000000 in
theorem f38_ok0 : FnOk Tryz.prog glob 38 f38_G0:=by
  refine FnOk.of_text (C:=f38_C) tab_ok.ok (Known.add f84_G_ok (Known.add f83_G_ok (Known.add f82_G_ok (Known.add f76_G_ok (Known.add f73_G_ok (Known.none)))))) follows_ok (fn:=Tryz.f38) (by kernel_rfl) (by kernel_rfl) (by kernel_rfl) (fun c hc=>?_) fun tm hp K h=>?_
  · have e : c = bodyOf Tryz.f38:=Option.some.inj (hc.symm.trans (by kernel_rfl))
    subst e
    exact ⟨LoopsOk.of [] (by kernel_rfl) trivial,TailsOk.of (tab:=f38_tab) rfl [nthC (tails (bodyOf Tryz.f38)) 5,nthC (tails (bodyOf Tryz.f38)) 8,nthC (tails (bodyOf Tryz.f38)) 11] (by kernel_rfl) ⟨f38_p13_ok,f38_p17_ok,f38_p21_ok,trivial⟩⟩
  · unfold f38_G0 at h
    obtain ⟨xx,yy,rfl,rfl,h⟩:=getS_elim h
    have e:=(f38_eq xx.1.1 xx.1.2.1 xx.1.2.2.1 xx.1.2.2.2.1 xx.1.2.2.2.2.1 xx.1.2.2.2.2.2.1 xx.1.2.2.2.2.2.2.1 xx.1.2.2.2.2.2.2.2.1 xx.1.2.2.2.2.2.2.2.2.1 xx.1.2.2.2.2.2.2.2.2.2.1 xx.1.2.2.2.2.2.2.2.2.2.2.1 xx.2.1 xx.2.2.1.1 xx.2.2.1.2.1 xx.2.2.1.2.2.1 K).trans (show _ = funcT f38_C Tryz.f38 (mkR _ xx) (mkE _ yy) K by kernel_rfl)
    rw [← e]
    exact h.run
abbrev f38_G:=f38_G0
theorem f38_G_ok : FnOk Tryz.prog glob 38 f38_G:=f38_ok0
def f100_p11 (n15 n16 : Int) (n17 n18 : Int) (n19 n20 : Int) (n21 n22 : Int) (n23 n24 : Int) (n25 n26 n27 : Int) (k0 : Int→Prop) : Prop:=bB (!((n23 == 0) && ((n24 == 0) && ((n25 == 0) && true)))) (f70 n23 n24 n25 (fun n28 n29=>k0 n28)) (k0 n27)
def f100_d (n1 n2 : Int) (n3 n4 : Int) (n5 n6 : Int) (n7 n8 : Int) (n9 n10 n11 : Int) (k0 : Int→Int→Prop) (k1 : Int→Int→Int→Int→Int→Int→Int→Int→Int→Int→Int→Prop) : Prop:=f68 n1 n2 n3 n4 n5 n6 n7 n8 n9 n10 n11 (fun b12=>bB b12 (bB (!((n6 == 0) && ((n7 == 0) && ((n8 == 0) && true)))) (f70 n6 n7 n8 (fun n13 n14=>f100_p11 n1 n2 n3 n4 n5 n6 n7 n8 n9 n10 n11 n13 73048 (fun n30=>k0 n13 n30))) (f100_p11 n1 n2 n3 n4 n5 n6 n7 n8 n9 n10 n11 0 73048 (fun n31=>k0 0 n31))) (k1 n1 n2 n3 n4 n5 n6 n7 n8 n9 n10 n11))
structure f100 (n1 n2 : Int) (n3 n4 : Int) (n5 n6 : Int) (n7 n8 : Int) (n9 n10 n11 : Int) (k0 : Int→Int→Prop) (k1 : Int→Int→Int→Int→Int→Int→Int→Int→Int→Int→Int→Prop) : Prop where
  run : f100_d n1 n2 n3 n4 n5 n6 n7 n8 n9 n10 n11 k0 k1
def f100_p11L : Told:=fun s K=>match s with
  | ⟨tm,hp⟩=>getS [.skip 1,.v (.one (.ptr 0 0 0)),.skip 1,.v (.one (.ptr 1 0 0)),.v (.one (.ptr 2 0 0)),.skip 24] [.box [.int .i64,.int .i64,.int .i64,.int .i64,.int .i64,.int .i64,.int .i64,.int .i64,.int .i64,.int .i64,.int .i64],.box [.int .i64],.box [.int .i64]] tm hp fun (xx : (Unit×(Unit×(Unit×(Unit×(Unit×(Unit×Unit))))))) (yy : ((Int×(Int×(Int×(Int×(Int×(Int×(Int×(Int×(Int×(Int×(Int×Unit)))))))))))×((Int×Unit)×((Int×Unit)×Unit))))=>f100_p11 yy.1.1 yy.1.2.1 yy.1.2.2.1 yy.1.2.2.2.1 yy.1.2.2.2.2.1 yy.1.2.2.2.2.2.1 yy.1.2.2.2.2.2.2.1 yy.1.2.2.2.2.2.2.2.1 yy.1.2.2.2.2.2.2.2.2.1 yy.1.2.2.2.2.2.2.2.2.2.1 yy.1.2.2.2.2.2.2.2.2.2.2.1 yy.2.1.1 yy.2.2.1.1 (fun n0_0=>K .ret ⟨mkS 29 [(2,.w (.one (.clo 116 [] [.ptr 0 0 0,.ptr 1 0 0])))],[.box [.p (pI yy.2.1.1)],.box [.p (pI n0_0)]]⟩)
def f100_tab : List (Nat×Told):=[(11,f100_p11L)]
def f100_call : FuncId→List TV→List Entry→(TV→List Entry→Prop)→Prop:=addCall 70 f70_G (addCall 68 f68_G (noCalls))
def f100_C : Ctx:=mkC [(11,[(0,[1,3,4]),(1,[1]),(2,[2])])] [] [] [] [] true 0 false (lookL f100_tab) f100_call
theorem f100_p11e0 (n_14 n_15 : Int) (n_16 n_17 : Int) (n_18 n_19 : Int) (n_20 n_21 : Int) (n_22 n_23 : Int) (n_24 n_25 n_26 : Int) (K : TExit→St→Prop) : (f100_p11 n_14 n_15 n_16 n_17 n_18 n_19 n_20 n_21 n_22 n_23 n_24 n_25 n_26 (fun n0_27=>K .ret ⟨mkS 29 [(2,.w (.one (.clo 116 [] [.ptr 0 0 0,.ptr 1 0 0])))],[.box [.p (pI n_25)],.box [.p (pI n0_27)]]⟩)) = execT f100_C (nthC (tails (bodyOf Tryz.f100)) 4) ⟨mkS 29 [(1,.w (.one (.ptr 0 0 0))),(3,.w (.one (.ptr 1 0 0))),(4,.w (.one (.ptr 2 0 0)))],[.box [.p (pI n_14),.p (pI n_15),.p (pI n_16),.p (pI n_17),.p (pI n_18),.p (pI n_19),.p (pI n_20),.p (pI n_21),.p (pI n_22),.p (pI n_23),.p (pI n_24)],.box [.p (pI n_25)],.box [.p (pI n_26)]]⟩ (fun e s=>K e (normOut f100_C 11 e s)):=by kernel_rfl
set_option maxHeartbeats 4000000 in
theorem f100_p11_ok : TailOk f100_C (nthC (tails (bodyOf Tryz.f100)) 4):=by
  refine TailOk.of f100_p11L (by kernel_rfl) fun σ K h=>?_
  have hk : joinKey (nthC (tails (bodyOf Tryz.f100)) 4) = 11:=by kernel_rfl
  rw [hk] at h ⊢
  generalize hs : normK f100_C 11 σ = s at h
  obtain ⟨tm,hp⟩:=s
  unfold f100_p11L at h
  dsimp only at h
  obtain ⟨xx,yy,rfl,rfl,h⟩:=getS_elim h
  have q : normK f100_C 11 σ = (⟨mkS 29 [(1,.w (.one (.ptr 0 0 0))),(3,.w (.one (.ptr 1 0 0))),(4,.w (.one (.ptr 2 0 0)))],[.box [.p (pI yy.1.1),.p (pI yy.1.2.1),.p (pI yy.1.2.2.1),.p (pI yy.1.2.2.2.1),.p (pI yy.1.2.2.2.2.1),.p (pI yy.1.2.2.2.2.2.1),.p (pI yy.1.2.2.2.2.2.2.1),.p (pI yy.1.2.2.2.2.2.2.2.1),.p (pI yy.1.2.2.2.2.2.2.2.2.1),.p (pI yy.1.2.2.2.2.2.2.2.2.2.1),.p (pI yy.1.2.2.2.2.2.2.2.2.2.2.1)],.box [.p (pI yy.2.1.1)],.box [.p (pI yy.2.2.1.1)]]⟩ : St):=hs.trans (by kernel_rfl)
  rw [← hs,q,← f100_p11e0 yy.1.1 yy.1.2.1 yy.1.2.2.1 yy.1.2.2.2.1 yy.1.2.2.2.2.1 yy.1.2.2.2.2.2.1 yy.1.2.2.2.2.2.2.1 yy.1.2.2.2.2.2.2.2.1 yy.1.2.2.2.2.2.2.2.2.1 yy.1.2.2.2.2.2.2.2.2.2.1 yy.1.2.2.2.2.2.2.2.2.2.2.1 yy.2.1.1 yy.2.2.1.1 K]
  exact h
def f100_G0 : List TV→List Entry→(TV→List Entry→Prop)→Prop:=fun tm hp K=>getS [.v (.pagg [.int .i64,.int .i64,.int .i64,.int .i64,.int .i64,.int .i64,.int .i64,.int .i64,.int .i64,.int .i64,.int .i64])] [] tm hp fun (xx : ((Int×(Int×(Int×(Int×(Int×(Int×(Int×(Int×(Int×(Int×(Int×Unit)))))))))))×Unit)) (yy : Unit)=>f100 xx.1.1 xx.1.2.1 xx.1.2.2.1 xx.1.2.2.2.1 xx.1.2.2.2.2.1 xx.1.2.2.2.2.2.1 xx.1.2.2.2.2.2.2.1 xx.1.2.2.2.2.2.2.2.1 xx.1.2.2.2.2.2.2.2.2.1 xx.1.2.2.2.2.2.2.2.2.2.1 xx.1.2.2.2.2.2.2.2.2.2.2.1 (fun n0_1 n0_2=>K (.w (.one (.clo 116 [] [.ptr 0 0 0,.ptr 1 0 0]))) [.box [.p (pI n0_1)],.box [.p (pI n0_2)]]) (fun n1_3 n1_4 n1_5 n1_6 n1_7 n1_8 n1_9 n1_10 n1_11 n1_12 n1_13=>K (.w (.one (.clo 117 [] [.ptr 0 0 0]))) [.box [.p (pI n1_3),.p (pI n1_4),.p (pI n1_5),.p (pI n1_6),.p (pI n1_7),.p (pI n1_8),.p (pI n1_9),.p (pI n1_10),.p (pI n1_11),.p (pI n1_12),.p (pI n1_13)]])
theorem f100_eq (n_28 n_29 : Int) (n_30 n_31 : Int) (n_32 n_33 : Int) (n_34 n_35 : Int) (n_36 n_37 n_38 : Int) (K : TV→List Entry→Prop) : (f100_d n_28 n_29 n_30 n_31 n_32 n_33 n_34 n_35 n_36 n_37 n_38 (fun n0_1 n0_2=>K (.w (.one (.clo 116 [] [.ptr 0 0 0,.ptr 1 0 0]))) [.box [.p (pI n0_1)],.box [.p (pI n0_2)]]) (fun n1_3 n1_4 n1_5 n1_6 n1_7 n1_8 n1_9 n1_10 n1_11 n1_12 n1_13=>K (.w (.one (.clo 117 [] [.ptr 0 0 0]))) [.box [.p (pI n1_3),.p (pI n1_4),.p (pI n1_5),.p (pI n1_6),.p (pI n1_7),.p (pI n1_8),.p (pI n1_9),.p (pI n1_10),.p (pI n1_11),.p (pI n1_12),.p (pI n1_13)]])) = funcT f100_C Tryz.f100 [.w (.pagg [pI n_28,pI n_29,pI n_30,pI n_31,pI n_32,pI n_33,pI n_34,pI n_35,pI n_36,pI n_37,pI n_38])] [] K:=by kernel_rfl
set_option maxHeartbeats 4000000 in
theorem f100_ok0 : FnOk Tryz.prog glob 100 f100_G0:=by
  refine FnOk.of_text (C:=f100_C) tab_ok.ok (Known.add f70_G_ok (Known.add f68_G_ok (Known.none))) follows_ok (fn:=Tryz.f100) (by kernel_rfl) (by kernel_rfl) (by kernel_rfl) (fun c hc=>?_) fun tm hp K h=>?_
  · have e : c = bodyOf Tryz.f100:=Option.some.inj (hc.symm.trans (by kernel_rfl))
    subst e
    exact ⟨LoopsOk.of [] (by kernel_rfl) trivial,TailsOk.of (tab:=f100_tab) rfl [nthC (tails (bodyOf Tryz.f100)) 4] (by kernel_rfl) ⟨f100_p11_ok,trivial⟩⟩
  · unfold f100_G0 at h
    obtain ⟨xx,yy,rfl,rfl,h⟩:=getS_elim h
    have e:=(f100_eq xx.1.1 xx.1.2.1 xx.1.2.2.1 xx.1.2.2.2.1 xx.1.2.2.2.2.1 xx.1.2.2.2.2.2.1 xx.1.2.2.2.2.2.2.1 xx.1.2.2.2.2.2.2.2.1 xx.1.2.2.2.2.2.2.2.2.1 xx.1.2.2.2.2.2.2.2.2.2.1 xx.1.2.2.2.2.2.2.2.2.2.2.1 K).trans (show _ = funcT f100_C Tryz.f100 (mkR _ xx) (mkE _ yy) K by kernel_rfl)
    rw [← e]
    exact h.run
abbrev f100_G:=f100_G0
theorem f100_G_ok : FnOk Tryz.prog glob 100 f100_G:=f100_ok0
def f116_d (n1 n2 n3 : Int) (k0 : Bool→Int→Int→Prop) : Prop:=bB (decide (n1≥n2)) (k0 (decide (n1≤n3)) n2 n3) (k0 false n2 n3)
structure f116 (n1 n2 n3 : Int) (k0 : Bool→Int→Int→Prop) : Prop where
  run : f116_d n1 n2 n3 k0
def f116_tab : List (Nat×Told):=[]
def f116_call : FuncId→List TV→List Entry→(TV→List Entry→Prop)→Prop:=noCalls
def f116_C : Ctx:=mkC [] [] [] [] [] false 2 true (lookL f116_tab) f116_call
def f116_G0 : List TV→List Entry→(TV→List Entry→Prop)→Prop:=fun tm hp K=>getS [.v (.one (.int .i64)),.v (.one (.ptr 0 0 0)),.v (.one (.ptr 1 0 0))] [.box [.int .i64],.box [.int .i64]] tm hp fun (xx : (Int×(Unit×(Unit×Unit)))) (yy : ((Int×Unit)×((Int×Unit)×Unit)))=>f116 xx.1 yy.1.1 yy.2.1.1 (fun b0_0 n0_1 n0_2=>K (B b0_0) [.box [.p (pI n0_1)],.box [.p (pI n0_2)]])
theorem f116_eq (n_3 n_4 n_5 : Int) (K : TV→List Entry→Prop) : (f116_d n_3 n_4 n_5 (fun b0_0 n0_1 n0_2=>K (B b0_0) [.box [.p (pI n0_1)],.box [.p (pI n0_2)]])) = funcT f116_C Tryz.f116 [I n_3,.w (.one (.ptr 0 0 0)),.w (.one (.ptr 1 0 0))] [.box [.p (pI n_4)],.box [.p (pI n_5)]] K:=by kernel_rfl
set_option maxHeartbeats 4000000 in
theorem f116_ok0 : FnOk Tryz.prog glob 116 f116_G0:=by
  refine FnOk.of_text (C:=f116_C) tab_ok.ok (Known.none) follows_ok (fn:=Tryz.f116) (by kernel_rfl) (by kernel_rfl) (by kernel_rfl) (fun c hc=>?_) fun tm hp K h=>?_
  · have e : c = bodyOf Tryz.f116:=Option.some.inj (hc.symm.trans (by kernel_rfl))
    subst e
    exact ⟨LoopsOk.of [] (by kernel_rfl) trivial,TailsOk.of (tab:=f116_tab) rfl [] (by kernel_rfl) trivial⟩
  · unfold f116_G0 at h
    obtain ⟨xx,yy,rfl,rfl,h⟩:=getS_elim h
    have e:=(f116_eq xx.1 yy.1.1 yy.2.1.1 K).trans (show _ = funcT f116_C Tryz.f116 (mkR _ xx) (mkE _ yy) K by kernel_rfl)
    rw [← e]
    exact h.run
abbrev f116_G:=f116_G0
theorem f116_G_ok : FnOk Tryz.prog glob 116 f116_G:=f116_ok0
def f117_p31 (n52 : Int) (b53 : Bool) (n54 n55 : Int) (n56 n57 : Int) (n58 n59 : Int) (n60 n61 : Int) (n62 n63 : Int) (n64 n65 : Int) (n66 n67 : Int) (k0 : Bool→Prop) (k1 : Unit→Prop) : Prop:=bB b53 (k0 false) (bB (n58 == 6) (k0 (decide (n67 > (w64 (n52 - 7))))) (bB (n58 != 0) (bB (decide (n67≥(w64 ((w64 (7 * n58)) - 6)))) (k0 (decide (n67≤(w64 (7 * n58))))) (k0 false)) (k1 ())))
def f117_p21 (n36 : Int) (b37 : Bool) (n38 n39 : Int) (n40 n41 : Int) (n42 n43 : Int) (n44 n45 : Int) (n46 n47 : Int) (n48 n49 : Int) (n50 n51 : Int) (k0 : Bool→Prop) (k1 : Unit→Prop) : Prop:=bB b37 (k0 false) (bB (n40 == 32) (bB (n51 != n36) (f117_p31 n36 true n38 n39 n40 n41 n42 n43 n44 n45 n46 n47 n48 n49 n50 n51 k0 (fun (_ : Unit)=>k1 ())) (bB (n40 == 33) ((2 : Int)≠0∧bB ((Int.tmod n51 2) == 0) (f117_p31 n36 true n38 n39 n40 n41 n42 n43 n44 n45 n46 n47 n48 n49 n50 n51 k0 (fun (_ : Unit)=>k1 ())) (bB (n40 == 34) ((2 : Int)≠0∧bB ((Int.tmod n51 2) == 1) (f117_p31 n36 true n38 n39 n40 n41 n42 n43 n44 n45 n46 n47 n48 n49 n50 n51 k0 (fun (_ : Unit)=>k1 ())) (bB (n40 != 0) (bB (decide (n40≤31)) (f117_p31 n36 (n40 != n51) n38 n39 n40 n41 n42 n43 n44 n45 n46 n47 n48 n49 n50 n51 k0 (fun (_ : Unit)=>k1 ())) (f117_p31 n36 false n38 n39 n40 n41 n42 n43 n44 n45 n46 n47 n48 n49 n50 n51 k0 (fun (_ : Unit)=>k1 ()))) (f117_p31 n36 false n38 n39 n40 n41 n42 n43 n44 n45 n46 n47 n48 n49 n50 n51 k0 (fun (_ : Unit)=>k1 ())))) (bB (n40 != 0) (bB (decide (n40≤31)) (f117_p31 n36 (n40 != n51) n38 n39 n40 n41 n42 n43 n44 n45 n46 n47 n48 n49 n50 n51 k0 (fun (_ : Unit)=>k1 ())) (f117_p31 n36 false n38 n39 n40 n41 n42 n43 n44 n45 n46 n47 n48 n49 n50 n51 k0 (fun (_ : Unit)=>k1 ()))) (f117_p31 n36 false n38 n39 n40 n41 n42 n43 n44 n45 n46 n47 n48 n49 n50 n51 k0 (fun (_ : Unit)=>k1 ()))))) (bB (n40 == 34) ((2 : Int)≠0∧bB ((Int.tmod n51 2) == 1) (f117_p31 n36 true n38 n39 n40 n41 n42 n43 n44 n45 n46 n47 n48 n49 n50 n51 k0 (fun (_ : Unit)=>k1 ())) (bB (n40 != 0) (bB (decide (n40≤31)) (f117_p31 n36 (n40 != n51) n38 n39 n40 n41 n42 n43 n44 n45 n46 n47 n48 n49 n50 n51 k0 (fun (_ : Unit)=>k1 ())) (f117_p31 n36 false n38 n39 n40 n41 n42 n43 n44 n45 n46 n47 n48 n49 n50 n51 k0 (fun (_ : Unit)=>k1 ()))) (f117_p31 n36 false n38 n39 n40 n41 n42 n43 n44 n45 n46 n47 n48 n49 n50 n51 k0 (fun (_ : Unit)=>k1 ())))) (bB (n40 != 0) (bB (decide (n40≤31)) (f117_p31 n36 (n40 != n51) n38 n39 n40 n41 n42 n43 n44 n45 n46 n47 n48 n49 n50 n51 k0 (fun (_ : Unit)=>k1 ())) (f117_p31 n36 false n38 n39 n40 n41 n42 n43 n44 n45 n46 n47 n48 n49 n50 n51 k0 (fun (_ : Unit)=>k1 ()))) (f117_p31 n36 false n38 n39 n40 n41 n42 n43 n44 n45 n46 n47 n48 n49 n50 n51 k0 (fun (_ : Unit)=>k1 ())))))) (bB (n40 == 33) ((2 : Int)≠0∧bB ((Int.tmod n51 2) == 0) (f117_p31 n36 true n38 n39 n40 n41 n42 n43 n44 n45 n46 n47 n48 n49 n50 n51 k0 (fun (_ : Unit)=>k1 ())) (bB (n40 == 34) ((2 : Int)≠0∧bB ((Int.tmod n51 2) == 1) (f117_p31 n36 true n38 n39 n40 n41 n42 n43 n44 n45 n46 n47 n48 n49 n50 n51 k0 (fun (_ : Unit)=>k1 ())) (bB (n40 != 0) (bB (decide (n40≤31)) (f117_p31 n36 (n40 != n51) n38 n39 n40 n41 n42 n43 n44 n45 n46 n47 n48 n49 n50 n51 k0 (fun (_ : Unit)=>k1 ())) (f117_p31 n36 false n38 n39 n40 n41 n42 n43 n44 n45 n46 n47 n48 n49 n50 n51 k0 (fun (_ : Unit)=>k1 ()))) (f117_p31 n36 false n38 n39 n40 n41 n42 n43 n44 n45 n46 n47 n48 n49 n50 n51 k0 (fun (_ : Unit)=>k1 ())))) (bB (n40 != 0) (bB (decide (n40≤31)) (f117_p31 n36 (n40 != n51) n38 n39 n40 n41 n42 n43 n44 n45 n46 n47 n48 n49 n50 n51 k0 (fun (_ : Unit)=>k1 ())) (f117_p31 n36 false n38 n39 n40 n41 n42 n43 n44 n45 n46 n47 n48 n49 n50 n51 k0 (fun (_ : Unit)=>k1 ()))) (f117_p31 n36 false n38 n39 n40 n41 n42 n43 n44 n45 n46 n47 n48 n49 n50 n51 k0 (fun (_ : Unit)=>k1 ()))))) (bB (n40 == 34) ((2 : Int)≠0∧bB ((Int.tmod n51 2) == 1) (f117_p31 n36 true n38 n39 n40 n41 n42 n43 n44 n45 n46 n47 n48 n49 n50 n51 k0 (fun (_ : Unit)=>k1 ())) (bB (n40 != 0) (bB (decide (n40≤31)) (f117_p31 n36 (n40 != n51) n38 n39 n40 n41 n42 n43 n44 n45 n46 n47 n48 n49 n50 n51 k0 (fun (_ : Unit)=>k1 ())) (f117_p31 n36 false n38 n39 n40 n41 n42 n43 n44 n45 n46 n47 n48 n49 n50 n51 k0 (fun (_ : Unit)=>k1 ()))) (f117_p31 n36 false n38 n39 n40 n41 n42 n43 n44 n45 n46 n47 n48 n49 n50 n51 k0 (fun (_ : Unit)=>k1 ())))) (bB (n40 != 0) (bB (decide (n40≤31)) (f117_p31 n36 (n40 != n51) n38 n39 n40 n41 n42 n43 n44 n45 n46 n47 n48 n49 n50 n51 k0 (fun (_ : Unit)=>k1 ())) (f117_p31 n36 false n38 n39 n40 n41 n42 n43 n44 n45 n46 n47 n48 n49 n50 n51 k0 (fun (_ : Unit)=>k1 ()))) (f117_p31 n36 false n38 n39 n40 n41 n42 n43 n44 n45 n46 n47 n48 n49 n50 n51 k0 (fun (_ : Unit)=>k1 ()))))))
def f117_p13 (n20 : Int) (b21 : Bool) (n22 n23 : Int) (n24 n25 : Int) (n26 n27 : Int) (n28 n29 : Int) (n30 n31 : Int) (n32 n33 : Int) (n34 n35 : Int) (k0 : Bool→Prop) (k1 : Unit→Prop) : Prop:=bB b21 (k0 false) (bB (n23 == 13) ((2 : Int)≠0∧bB ((Int.tmod n34 2) == 0) (f117_p21 n20 true n22 n23 n24 n25 n26 n27 n28 n29 n30 n31 n32 n33 n34 n35 k0 (fun (_ : Unit)=>k1 ())) (bB (n23 == 14) ((2 : Int)≠0∧bB ((Int.tmod n34 2) == 1) (f117_p21 n20 true n22 n23 n24 n25 n26 n27 n28 n29 n30 n31 n32 n33 n34 n35 k0 (fun (_ : Unit)=>k1 ())) (bB (n23 != 0) (bB (decide (n23≤12)) (f117_p21 n20 (n23 != n34) n22 n23 n24 n25 n26 n27 n28 n29 n30 n31 n32 n33 n34 n35 k0 (fun (_ : Unit)=>k1 ())) (f117_p21 n20 false n22 n23 n24 n25 n26 n27 n28 n29 n30 n31 n32 n33 n34 n35 k0 (fun (_ : Unit)=>k1 ()))) (f117_p21 n20 false n22 n23 n24 n25 n26 n27 n28 n29 n30 n31 n32 n33 n34 n35 k0 (fun (_ : Unit)=>k1 ())))) (bB (n23 != 0) (bB (decide (n23≤12)) (f117_p21 n20 (n23 != n34) n22 n23 n24 n25 n26 n27 n28 n29 n30 n31 n32 n33 n34 n35 k0 (fun (_ : Unit)=>k1 ())) (f117_p21 n20 false n22 n23 n24 n25 n26 n27 n28 n29 n30 n31 n32 n33 n34 n35 k0 (fun (_ : Unit)=>k1 ()))) (f117_p21 n20 false n22 n23 n24 n25 n26 n27 n28 n29 n30 n31 n32 n33 n34 n35 k0 (fun (_ : Unit)=>k1 ()))))) (bB (n23 == 14) ((2 : Int)≠0∧bB ((Int.tmod n34 2) == 1) (f117_p21 n20 true n22 n23 n24 n25 n26 n27 n28 n29 n30 n31 n32 n33 n34 n35 k0 (fun (_ : Unit)=>k1 ())) (bB (n23 != 0) (bB (decide (n23≤12)) (f117_p21 n20 (n23 != n34) n22 n23 n24 n25 n26 n27 n28 n29 n30 n31 n32 n33 n34 n35 k0 (fun (_ : Unit)=>k1 ())) (f117_p21 n20 false n22 n23 n24 n25 n26 n27 n28 n29 n30 n31 n32 n33 n34 n35 k0 (fun (_ : Unit)=>k1 ()))) (f117_p21 n20 false n22 n23 n24 n25 n26 n27 n28 n29 n30 n31 n32 n33 n34 n35 k0 (fun (_ : Unit)=>k1 ())))) (bB (n23 != 0) (bB (decide (n23≤12)) (f117_p21 n20 (n23 != n34) n22 n23 n24 n25 n26 n27 n28 n29 n30 n31 n32 n33 n34 n35 k0 (fun (_ : Unit)=>k1 ())) (f117_p21 n20 false n22 n23 n24 n25 n26 n27 n28 n29 n30 n31 n32 n33 n34 n35 k0 (fun (_ : Unit)=>k1 ()))) (f117_p21 n20 false n22 n23 n24 n25 n26 n27 n28 n29 n30 n31 n32 n33 n34 n35 k0 (fun (_ : Unit)=>k1 ())))))
def f117_d (n1 n2 : Int) (n3 n4 : Int) (n5 n6 : Int) (n7 n8 : Int) (n9 n10 : Int) (n11 n12 : Int) (k0 : Bool→Int→Int→Int→Int→Int→Int→Int→Int→Int→Int→Int→Prop) : Prop:=f118 n1 (fun n13 n14 n15 n16=>f95 n13 n14 (fun n17=>f119 n1 (fun n18 n19=>bB (n2 != 0) (bB (n2 != n13) (f117_p13 n17 true n2 n3 n4 n5 n6 n7 n8 n9 n10 n11 n12 n13 n14 n15 (fun b114=>k0 b114 n2 n3 n4 n5 n6 n7 n8 n9 n10 n11 n12) (fun (_ : Unit)=>k0 true n2 n3 n4 n5 n6 n7 n8 n9 n10 n11 n12)) (bB (n5 != 0) (f117_p13 n17 (n5 != n18) n2 n3 n4 n5 n6 n7 n8 n9 n10 n11 n12 n13 n14 n15 (fun b115=>k0 b115 n2 n3 n4 n5 n6 n7 n8 n9 n10 n11 n12) (fun (_ : Unit)=>k0 true n2 n3 n4 n5 n6 n7 n8 n9 n10 n11 n12)) (f117_p13 n17 false n2 n3 n4 n5 n6 n7 n8 n9 n10 n11 n12 n13 n14 n15 (fun b116=>k0 b116 n2 n3 n4 n5 n6 n7 n8 n9 n10 n11 n12) (fun (_ : Unit)=>k0 true n2 n3 n4 n5 n6 n7 n8 n9 n10 n11 n12)))) (bB (n5 != 0) (f117_p13 n17 (n5 != n18) n2 n3 n4 n5 n6 n7 n8 n9 n10 n11 n12 n13 n14 n15 (fun b117=>k0 b117 n2 n3 n4 n5 n6 n7 n8 n9 n10 n11 n12) (fun (_ : Unit)=>k0 true n2 n3 n4 n5 n6 n7 n8 n9 n10 n11 n12)) (f117_p13 n17 false n2 n3 n4 n5 n6 n7 n8 n9 n10 n11 n12 n13 n14 n15 (fun b118=>k0 b118 n2 n3 n4 n5 n6 n7 n8 n9 n10 n11 n12) (fun (_ : Unit)=>k0 true n2 n3 n4 n5 n6 n7 n8 n9 n10 n11 n12))))))
structure f117 (n1 n2 : Int) (n3 n4 : Int) (n5 n6 : Int) (n7 n8 : Int) (n9 n10 : Int) (n11 n12 : Int) (k0 : Bool→Int→Int→Int→Int→Int→Int→Int→Int→Int→Int→Int→Prop) : Prop where
  run : f117_d n1 n2 n3 n4 n5 n6 n7 n8 n9 n10 n11 n12 k0
def f117_p31L : Told:=fun s K=>match s with
  | ⟨tm,hp⟩=>getS [.skip 1,.v (.one (.ptr 0 0 0)),.skip 2,.v (.one (.ptr 1 0 0)),.skip 1,.v (.one (.int .i64)),.skip 71,.v (.one (.bool)),.skip 70] [.box [.int .i64,.int .i64,.int .i64,.int .i64,.int .i64,.int .i64,.int .i64,.int .i64,.int .i64,.int .i64,.int .i64],.box [.int .i64,.int .i64,.int .i64]] tm hp fun (xx : (Unit×(Unit×(Unit×(Unit×(Unit×(Int×(Unit×(Bool×(Unit×Unit)))))))))) (yy : ((Int×(Int×(Int×(Int×(Int×(Int×(Int×(Int×(Int×(Int×(Int×Unit)))))))))))×((Int×(Int×(Int×Unit)))×Unit)))=>f117_p31 xx.2.2.2.2.2.1 xx.2.2.2.2.2.2.2.1 yy.1.1 yy.1.2.1 yy.1.2.2.1 yy.1.2.2.2.1 yy.1.2.2.2.2.1 yy.1.2.2.2.2.2.1 yy.1.2.2.2.2.2.2.1 yy.1.2.2.2.2.2.2.2.1 yy.1.2.2.2.2.2.2.2.2.1 yy.1.2.2.2.2.2.2.2.2.2.1 yy.1.2.2.2.2.2.2.2.2.2.2.1 yy.2.1.1 yy.2.1.2.1 yy.2.1.2.2.1 (fun b0_0=>K .ret ⟨mkS 149 [(3,B b0_0)],[.box [.p (pI yy.1.1),.p (pI yy.1.2.1),.p (pI yy.1.2.2.1),.p (pI yy.1.2.2.2.1),.p (pI yy.1.2.2.2.2.1),.p (pI yy.1.2.2.2.2.2.1),.p (pI yy.1.2.2.2.2.2.2.1),.p (pI yy.1.2.2.2.2.2.2.2.1),.p (pI yy.1.2.2.2.2.2.2.2.2.1),.p (pI yy.1.2.2.2.2.2.2.2.2.2.1),.p (pI yy.1.2.2.2.2.2.2.2.2.2.2.1)]]⟩) (fun (_ : Unit)=>K .normal ⟨mkS 149 [],[.box [.p (pI yy.1.1),.p (pI yy.1.2.1),.p (pI yy.1.2.2.1),.p (pI yy.1.2.2.2.1),.p (pI yy.1.2.2.2.2.1),.p (pI yy.1.2.2.2.2.2.1),.p (pI yy.1.2.2.2.2.2.2.1),.p (pI yy.1.2.2.2.2.2.2.2.1),.p (pI yy.1.2.2.2.2.2.2.2.2.1),.p (pI yy.1.2.2.2.2.2.2.2.2.2.1),.p (pI yy.1.2.2.2.2.2.2.2.2.2.2.1)]]⟩)
def f117_p21L : Told:=fun s K=>match s with
  | ⟨tm,hp⟩=>getS [.skip 1,.v (.one (.ptr 0 0 0)),.skip 2,.v (.one (.ptr 1 0 0)),.skip 1,.v (.one (.int .i64)),.skip 37,.v (.one (.bool)),.skip 104] [.box [.int .i64,.int .i64,.int .i64,.int .i64,.int .i64,.int .i64,.int .i64,.int .i64,.int .i64,.int .i64,.int .i64],.box [.int .i64,.int .i64,.int .i64]] tm hp fun (xx : (Unit×(Unit×(Unit×(Unit×(Unit×(Int×(Unit×(Bool×(Unit×Unit)))))))))) (yy : ((Int×(Int×(Int×(Int×(Int×(Int×(Int×(Int×(Int×(Int×(Int×Unit)))))))))))×((Int×(Int×(Int×Unit)))×Unit)))=>f117_p21 xx.2.2.2.2.2.1 xx.2.2.2.2.2.2.2.1 yy.1.1 yy.1.2.1 yy.1.2.2.1 yy.1.2.2.2.1 yy.1.2.2.2.2.1 yy.1.2.2.2.2.2.1 yy.1.2.2.2.2.2.2.1 yy.1.2.2.2.2.2.2.2.1 yy.1.2.2.2.2.2.2.2.2.1 yy.1.2.2.2.2.2.2.2.2.2.1 yy.1.2.2.2.2.2.2.2.2.2.2.1 yy.2.1.1 yy.2.1.2.1 yy.2.1.2.2.1 (fun b0_1=>K .ret ⟨mkS 149 [(3,B b0_1)],[.box [.p (pI yy.1.1),.p (pI yy.1.2.1),.p (pI yy.1.2.2.1),.p (pI yy.1.2.2.2.1),.p (pI yy.1.2.2.2.2.1),.p (pI yy.1.2.2.2.2.2.1),.p (pI yy.1.2.2.2.2.2.2.1),.p (pI yy.1.2.2.2.2.2.2.2.1),.p (pI yy.1.2.2.2.2.2.2.2.2.1),.p (pI yy.1.2.2.2.2.2.2.2.2.2.1),.p (pI yy.1.2.2.2.2.2.2.2.2.2.2.1)]]⟩) (fun (_ : Unit)=>K .normal ⟨mkS 149 [],[.box [.p (pI yy.1.1),.p (pI yy.1.2.1),.p (pI yy.1.2.2.1),.p (pI yy.1.2.2.2.1),.p (pI yy.1.2.2.2.2.1),.p (pI yy.1.2.2.2.2.2.1),.p (pI yy.1.2.2.2.2.2.2.1),.p (pI yy.1.2.2.2.2.2.2.2.1),.p (pI yy.1.2.2.2.2.2.2.2.2.1),.p (pI yy.1.2.2.2.2.2.2.2.2.2.1),.p (pI yy.1.2.2.2.2.2.2.2.2.2.2.1)]]⟩)
def f117_p13L : Told:=fun s K=>match s with
  | ⟨tm,hp⟩=>getS [.skip 1,.v (.one (.ptr 0 0 0)),.skip 2,.v (.one (.ptr 1 0 0)),.skip 1,.v (.one (.int .i64)),.skip 17,.v (.one (.bool)),.skip 124] [.box [.int .i64,.int .i64,.int .i64,.int .i64,.int .i64,.int .i64,.int .i64,.int .i64,.int .i64,.int .i64,.int .i64],.box [.int .i64,.int .i64,.int .i64]] tm hp fun (xx : (Unit×(Unit×(Unit×(Unit×(Unit×(Int×(Unit×(Bool×(Unit×Unit)))))))))) (yy : ((Int×(Int×(Int×(Int×(Int×(Int×(Int×(Int×(Int×(Int×(Int×Unit)))))))))))×((Int×(Int×(Int×Unit)))×Unit)))=>f117_p13 xx.2.2.2.2.2.1 xx.2.2.2.2.2.2.2.1 yy.1.1 yy.1.2.1 yy.1.2.2.1 yy.1.2.2.2.1 yy.1.2.2.2.2.1 yy.1.2.2.2.2.2.1 yy.1.2.2.2.2.2.2.1 yy.1.2.2.2.2.2.2.2.1 yy.1.2.2.2.2.2.2.2.2.1 yy.1.2.2.2.2.2.2.2.2.2.1 yy.1.2.2.2.2.2.2.2.2.2.2.1 yy.2.1.1 yy.2.1.2.1 yy.2.1.2.2.1 (fun b0_2=>K .ret ⟨mkS 149 [(3,B b0_2)],[.box [.p (pI yy.1.1),.p (pI yy.1.2.1),.p (pI yy.1.2.2.1),.p (pI yy.1.2.2.2.1),.p (pI yy.1.2.2.2.2.1),.p (pI yy.1.2.2.2.2.2.1),.p (pI yy.1.2.2.2.2.2.2.1),.p (pI yy.1.2.2.2.2.2.2.2.1),.p (pI yy.1.2.2.2.2.2.2.2.2.1),.p (pI yy.1.2.2.2.2.2.2.2.2.2.1),.p (pI yy.1.2.2.2.2.2.2.2.2.2.2.1)]]⟩) (fun (_ : Unit)=>K .normal ⟨mkS 149 [],[.box [.p (pI yy.1.1),.p (pI yy.1.2.1),.p (pI yy.1.2.2.1),.p (pI yy.1.2.2.2.1),.p (pI yy.1.2.2.2.2.1),.p (pI yy.1.2.2.2.2.2.1),.p (pI yy.1.2.2.2.2.2.2.1),.p (pI yy.1.2.2.2.2.2.2.2.1),.p (pI yy.1.2.2.2.2.2.2.2.2.1),.p (pI yy.1.2.2.2.2.2.2.2.2.2.1),.p (pI yy.1.2.2.2.2.2.2.2.2.2.2.1)]]⟩)
def f117_tab : List (Nat×Told):=[(31,f117_p31L),(21,f117_p21L),(13,f117_p13L)]
def f117_call : FuncId→List TV→List Entry→(TV→List Entry→Prop)→Prop:=addCall 119 f119_G (addCall 118 f118_G (addCall 95 f95_G (noCalls)))
def f117_C : Ctx:=mkC [(31,[(0,[1,4,6,78]),(1,[]),(2,[3]),(3,[])]),(21,[(0,[1,4,6,44]),(1,[]),(2,[3]),(3,[])]),(13,[(0,[1,4,6,24]),(1,[]),(2,[3]),(3,[])])] [] [] [] [] false 1 true (lookL f117_tab) f117_call
theorem f117_p31e0 (n_15 : Int) (b_16 : Bool) (n_17 n_18 : Int) (n_19 n_20 : Int) (n_21 n_22 : Int) (n_23 n_24 : Int) (n_25 n_26 : Int) (n_27 n_28 : Int) (n_29 n_30 : Int) (K : TExit→St→Prop) : (f117_p31 n_15 b_16 n_17 n_18 n_19 n_20 n_21 n_22 n_23 n_24 n_25 n_26 n_27 n_28 n_29 n_30 (fun b0_31=>K .ret ⟨mkS 149 [(3,B b0_31)],[.box [.p (pI n_17),.p (pI n_18),.p (pI n_19),.p (pI n_20),.p (pI n_21),.p (pI n_22),.p (pI n_23),.p (pI n_24),.p (pI n_25),.p (pI n_26),.p (pI n_27)]]⟩) (fun (_ : Unit)=>K .normal ⟨mkS 149 [],[.box [.p (pI n_17),.p (pI n_18),.p (pI n_19),.p (pI n_20),.p (pI n_21),.p (pI n_22),.p (pI n_23),.p (pI n_24),.p (pI n_25),.p (pI n_26),.p (pI n_27)]]⟩)) = execT f117_C (nthC (tails (bodyOf Tryz.f117)) 12) ⟨mkS 149 [(1,.w (.one (.ptr 0 0 0))),(4,.w (.one (.ptr 1 0 0))),(6,I n_15),(78,B b_16)],[.box [.p (pI n_17),.p (pI n_18),.p (pI n_19),.p (pI n_20),.p (pI n_21),.p (pI n_22),.p (pI n_23),.p (pI n_24),.p (pI n_25),.p (pI n_26),.p (pI n_27)],.box [.p (pI n_28),.p (pI n_29),.p (pI n_30)]]⟩ (fun e s=>K e (normOut f117_C 31 e s)):=by kernel_rfl
theorem f117_p21e0 (n_32 : Int) (b_33 : Bool) (n_34 n_35 : Int) (n_36 n_37 : Int) (n_38 n_39 : Int) (n_40 n_41 : Int) (n_42 n_43 : Int) (n_44 n_45 : Int) (n_46 n_47 : Int) (K : TExit→St→Prop) : (f117_p21 n_32 b_33 n_34 n_35 n_36 n_37 n_38 n_39 n_40 n_41 n_42 n_43 n_44 n_45 n_46 n_47 (fun b0_48=>K .ret ⟨mkS 149 [(3,B b0_48)],[.box [.p (pI n_34),.p (pI n_35),.p (pI n_36),.p (pI n_37),.p (pI n_38),.p (pI n_39),.p (pI n_40),.p (pI n_41),.p (pI n_42),.p (pI n_43),.p (pI n_44)]]⟩) (fun (_ : Unit)=>K .normal ⟨mkS 149 [],[.box [.p (pI n_34),.p (pI n_35),.p (pI n_36),.p (pI n_37),.p (pI n_38),.p (pI n_39),.p (pI n_40),.p (pI n_41),.p (pI n_42),.p (pI n_43),.p (pI n_44)]]⟩)) = execT f117_C (nthC (tails (bodyOf Tryz.f117)) 8) ⟨mkS 149 [(1,.w (.one (.ptr 0 0 0))),(4,.w (.one (.ptr 1 0 0))),(6,I n_32),(44,B b_33)],[.box [.p (pI n_34),.p (pI n_35),.p (pI n_36),.p (pI n_37),.p (pI n_38),.p (pI n_39),.p (pI n_40),.p (pI n_41),.p (pI n_42),.p (pI n_43),.p (pI n_44)],.box [.p (pI n_45),.p (pI n_46),.p (pI n_47)]]⟩ (fun e s=>K e (normOut f117_C 21 e s)):=by kernel_rfl
theorem f117_p13e0 (n_49 : Int) (b_50 : Bool) (n_51 n_52 : Int) (n_53 n_54 : Int) (n_55 n_56 : Int) (n_57 n_58 : Int) (n_59 n_60 : Int) (n_61 n_62 : Int) (n_63 n_64 : Int) (K : TExit→St→Prop) : (f117_p13 n_49 b_50 n_51 n_52 n_53 n_54 n_55 n_56 n_57 n_58 n_59 n_60 n_61 n_62 n_63 n_64 (fun b0_65=>K .ret ⟨mkS 149 [(3,B b0_65)],[.box [.p (pI n_51),.p (pI n_52),.p (pI n_53),.p (pI n_54),.p (pI n_55),.p (pI n_56),.p (pI n_57),.p (pI n_58),.p (pI n_59),.p (pI n_60),.p (pI n_61)]]⟩) (fun (_ : Unit)=>K .normal ⟨mkS 149 [],[.box [.p (pI n_51),.p (pI n_52),.p (pI n_53),.p (pI n_54),.p (pI n_55),.p (pI n_56),.p (pI n_57),.p (pI n_58),.p (pI n_59),.p (pI n_60),.p (pI n_61)]]⟩)) = execT f117_C (nthC (tails (bodyOf Tryz.f117)) 5) ⟨mkS 149 [(1,.w (.one (.ptr 0 0 0))),(4,.w (.one (.ptr 1 0 0))),(6,I n_49),(24,B b_50)],[.box [.p (pI n_51),.p (pI n_52),.p (pI n_53),.p (pI n_54),.p (pI n_55),.p (pI n_56),.p (pI n_57),.p (pI n_58),.p (pI n_59),.p (pI n_60),.p (pI n_61)],.box [.p (pI n_62),.p (pI n_63),.p (pI n_64)]]⟩ (fun e s=>K e (normOut f117_C 13 e s)):=by kernel_rfl
set_option maxHeartbeats 4000000 in
theorem f117_p31_ok : TailOk f117_C (nthC (tails (bodyOf Tryz.f117)) 12):=by
  refine TailOk.of f117_p31L (by kernel_rfl) fun σ K h=>?_
  have hk : joinKey (nthC (tails (bodyOf Tryz.f117)) 12) = 31:=by kernel_rfl
  rw [hk] at h ⊢
  generalize hs : normK f117_C 31 σ = s at h
  obtain ⟨tm,hp⟩:=s
  unfold f117_p31L at h
  dsimp only at h
  obtain ⟨xx,yy,rfl,rfl,h⟩:=getS_elim h
  have q : normK f117_C 31 σ = (⟨mkS 149 [(1,.w (.one (.ptr 0 0 0))),(4,.w (.one (.ptr 1 0 0))),(6,I xx.2.2.2.2.2.1),(78,B xx.2.2.2.2.2.2.2.1)],[.box [.p (pI yy.1.1),.p (pI yy.1.2.1),.p (pI yy.1.2.2.1),.p (pI yy.1.2.2.2.1),.p (pI yy.1.2.2.2.2.1),.p (pI yy.1.2.2.2.2.2.1),.p (pI yy.1.2.2.2.2.2.2.1),.p (pI yy.1.2.2.2.2.2.2.2.1),.p (pI yy.1.2.2.2.2.2.2.2.2.1),.p (pI yy.1.2.2.2.2.2.2.2.2.2.1),.p (pI yy.1.2.2.2.2.2.2.2.2.2.2.1)],.box [.p (pI yy.2.1.1),.p (pI yy.2.1.2.1),.p (pI yy.2.1.2.2.1)]]⟩ : St):=hs.trans (by kernel_rfl)
  rw [← hs,q,← f117_p31e0 xx.2.2.2.2.2.1 xx.2.2.2.2.2.2.2.1 yy.1.1 yy.1.2.1 yy.1.2.2.1 yy.1.2.2.2.1 yy.1.2.2.2.2.1 yy.1.2.2.2.2.2.1 yy.1.2.2.2.2.2.2.1 yy.1.2.2.2.2.2.2.2.1 yy.1.2.2.2.2.2.2.2.2.1 yy.1.2.2.2.2.2.2.2.2.2.1 yy.1.2.2.2.2.2.2.2.2.2.2.1 yy.2.1.1 yy.2.1.2.1 yy.2.1.2.2.1 K]
  exact h
set_option maxHeartbeats 4000000 in
theorem f117_p21_ok : TailOk f117_C (nthC (tails (bodyOf Tryz.f117)) 8):=by
  refine TailOk.of f117_p21L (by kernel_rfl) fun σ K h=>?_
  have hk : joinKey (nthC (tails (bodyOf Tryz.f117)) 8) = 21:=by kernel_rfl
  rw [hk] at h ⊢
  generalize hs : normK f117_C 21 σ = s at h
  obtain ⟨tm,hp⟩:=s
  unfold f117_p21L at h
  dsimp only at h
  obtain ⟨xx,yy,rfl,rfl,h⟩:=getS_elim h
  have q : normK f117_C 21 σ = (⟨mkS 149 [(1,.w (.one (.ptr 0 0 0))),(4,.w (.one (.ptr 1 0 0))),(6,I xx.2.2.2.2.2.1),(44,B xx.2.2.2.2.2.2.2.1)],[.box [.p (pI yy.1.1),.p (pI yy.1.2.1),.p (pI yy.1.2.2.1),.p (pI yy.1.2.2.2.1),.p (pI yy.1.2.2.2.2.1),.p (pI yy.1.2.2.2.2.2.1),.p (pI yy.1.2.2.2.2.2.2.1),.p (pI yy.1.2.2.2.2.2.2.2.1),.p (pI yy.1.2.2.2.2.2.2.2.2.1),.p (pI yy.1.2.2.2.2.2.2.2.2.2.1),.p (pI yy.1.2.2.2.2.2.2.2.2.2.2.1)],.box [.p (pI yy.2.1.1),.p (pI yy.2.1.2.1),.p (pI yy.2.1.2.2.1)]]⟩ : St):=hs.trans (by kernel_rfl)
  rw [← hs,q,← f117_p21e0 xx.2.2.2.2.2.1 xx.2.2.2.2.2.2.2.1 yy.1.1 yy.1.2.1 yy.1.2.2.1 yy.1.2.2.2.1 yy.1.2.2.2.2.1 yy.1.2.2.2.2.2.1 yy.1.2.2.2.2.2.2.1 yy.1.2.2.2.2.2.2.2.1 yy.1.2.2.2.2.2.2.2.2.1 yy.1.2.2.2.2.2.2.2.2.2.1 yy.1.2.2.2.2.2.2.2.2.2.2.1 yy.2.1.1 yy.2.1.2.1 yy.2.1.2.2.1 K]
  exact h
set_option maxHeartbeats 4000000 in
theorem f117_p13_ok : TailOk f117_C (nthC (tails (bodyOf Tryz.f117)) 5):=by
  refine TailOk.of f117_p13L (by kernel_rfl) fun σ K h=>?_
  have hk : joinKey (nthC (tails (bodyOf Tryz.f117)) 5) = 13:=by kernel_rfl
  rw [hk] at h ⊢
  generalize hs : normK f117_C 13 σ = s at h
  obtain ⟨tm,hp⟩:=s
  unfold f117_p13L at h
  dsimp only at h
  obtain ⟨xx,yy,rfl,rfl,h⟩:=getS_elim h
  have q : normK f117_C 13 σ = (⟨mkS 149 [(1,.w (.one (.ptr 0 0 0))),(4,.w (.one (.ptr 1 0 0))),(6,I xx.2.2.2.2.2.1),(24,B xx.2.2.2.2.2.2.2.1)],[.box [.p (pI yy.1.1),.p (pI yy.1.2.1),.p (pI yy.1.2.2.1),.p (pI yy.1.2.2.2.1),.p (pI yy.1.2.2.2.2.1),.p (pI yy.1.2.2.2.2.2.1),.p (pI yy.1.2.2.2.2.2.2.1),.p (pI yy.1.2.2.2.2.2.2.2.1),.p (pI yy.1.2.2.2.2.2.2.2.2.1),.p (pI yy.1.2.2.2.2.2.2.2.2.2.1),.p (pI yy.1.2.2.2.2.2.2.2.2.2.2.1)],.box [.p (pI yy.2.1.1),.p (pI yy.2.1.2.1),.p (pI yy.2.1.2.2.1)]]⟩ : St):=hs.trans (by kernel_rfl)
  rw [← hs,q,← f117_p13e0 xx.2.2.2.2.2.1 xx.2.2.2.2.2.2.2.1 yy.1.1 yy.1.2.1 yy.1.2.2.1 yy.1.2.2.2.1 yy.1.2.2.2.2.1 yy.1.2.2.2.2.2.1 yy.1.2.2.2.2.2.2.1 yy.1.2.2.2.2.2.2.2.1 yy.1.2.2.2.2.2.2.2.2.1 yy.1.2.2.2.2.2.2.2.2.2.1 yy.1.2.2.2.2.2.2.2.2.2.2.1 yy.2.1.1 yy.2.1.2.1 yy.2.1.2.2.1 K]
  exact h
def f117_G0 : List TV→List Entry→(TV→List Entry→Prop)→Prop:=fun tm hp K=>getS [.v (.one (.int .i64)),.v (.one (.ptr 0 0 0))] [.box [.int .i64,.int .i64,.int .i64,.int .i64,.int .i64,.int .i64,.int .i64,.int .i64,.int .i64,.int .i64,.int .i64]] tm hp fun (xx : (Int×(Unit×Unit))) (yy : ((Int×(Int×(Int×(Int×(Int×(Int×(Int×(Int×(Int×(Int×(Int×Unit)))))))))))×Unit))=>f117 xx.1 yy.1.1 yy.1.2.1 yy.1.2.2.1 yy.1.2.2.2.1 yy.1.2.2.2.2.1 yy.1.2.2.2.2.2.1 yy.1.2.2.2.2.2.2.1 yy.1.2.2.2.2.2.2.2.1 yy.1.2.2.2.2.2.2.2.2.1 yy.1.2.2.2.2.2.2.2.2.2.1 yy.1.2.2.2.2.2.2.2.2.2.2.1 (fun b0_3 n0_4 n0_5 n0_6 n0_7 n0_8 n0_9 n0_10 n0_11 n0_12 n0_13 n0_14=>K (B b0_3) [.box [.p (pI n0_4),.p (pI n0_5),.p (pI n0_6),.p (pI n0_7),.p (pI n0_8),.p (pI n0_9),.p (pI n0_10),.p (pI n0_11),.p (pI n0_12),.p (pI n0_13),.p (pI n0_14)]])
theorem f117_eq (n_66 n_67 : Int) (n_68 n_69 : Int) (n_70 n_71 : Int) (n_72 n_73 : Int) (n_74 n_75 : Int) (n_76 n_77 : Int) (K : TV→List Entry→Prop) : (f117_d n_66 n_67 n_68 n_69 n_70 n_71 n_72 n_73 n_74 n_75 n_76 n_77 (fun b0_3 n0_4 n0_5 n0_6 n0_7 n0_8 n0_9 n0_10 n0_11 n0_12 n0_13 n0_14=>K (B b0_3) [.box [.p (pI n0_4),.p (pI n0_5),.p (pI n0_6),.p (pI n0_7),.p (pI n0_8),.p (pI n0_9),.p (pI n0_10),.p (pI n0_11),.p (pI n0_12),.p (pI n0_13),.p (pI n0_14)]])) = funcT f117_C Tryz.f117 [I n_66,.w (.one (.ptr 0 0 0))] [.box [.p (pI n_67),.p (pI n_68),.p (pI n_69),.p (pI n_70),.p (pI n_71),.p (pI n_72),.p (pI n_73),.p (pI n_74),.p (pI n_75),.p (pI n_76),.p (pI n_77)]] K:=by kernel_rfl
set_option maxHeartbeats 4000000 in
theorem f117_ok0 : FnOk Tryz.prog glob 117 f117_G0:=by
  refine FnOk.of_text (C:=f117_C) tab_ok.ok (Known.add f119_G_ok (Known.add f118_G_ok (Known.add f95_G_ok (Known.none)))) follows_ok (fn:=Tryz.f117) (by kernel_rfl) (by kernel_rfl) (by kernel_rfl) (fun c hc=>?_) fun tm hp K h=>?_
  · have e : c = bodyOf Tryz.f117:=Option.some.inj (hc.symm.trans (by kernel_rfl))
    subst e
    exact ⟨LoopsOk.of [] (by kernel_rfl) trivial,TailsOk.of (tab:=f117_tab) rfl [nthC (tails (bodyOf Tryz.f117)) 5,nthC (tails (bodyOf Tryz.f117)) 8,nthC (tails (bodyOf Tryz.f117)) 12] (by kernel_rfl) ⟨f117_p13_ok,f117_p21_ok,f117_p31_ok,trivial⟩⟩
  · unfold f117_G0 at h
    obtain ⟨xx,yy,rfl,rfl,h⟩:=getS_elim h
    have e:=(f117_eq xx.1 yy.1.1 yy.1.2.1 yy.1.2.2.1 yy.1.2.2.2.1 yy.1.2.2.2.2.1 yy.1.2.2.2.2.2.1 yy.1.2.2.2.2.2.2.1 yy.1.2.2.2.2.2.2.2.1 yy.1.2.2.2.2.2.2.2.2.1 yy.1.2.2.2.2.2.2.2.2.2.1 yy.1.2.2.2.2.2.2.2.2.2.2.1 K).trans (show _ = funcT f117_C Tryz.f117 (mkR _ xx) (mkE _ yy) K by kernel_rfl)
    rw [← e]
    exact h.run
abbrev f117_G:=f117_G0
theorem f117_G_ok : FnOk Tryz.prog glob 117 f117_G:=f117_ok0
def f99_d (n1 : Int) (k0 : Bool→Prop) : Prop:=bB (decide (n1≥0)) (k0 (decide (n1≤73048))) (k0 false)
structure f99 (n1 : Int) (k0 : Bool→Prop) : Prop where
  run : f99_d n1 k0
def f99_tab : List (Nat×Told):=[]
def f99_call : FuncId→List TV→List Entry→(TV→List Entry→Prop)→Prop:=noCalls
def f99_C : Ctx:=mkC [] [] [] [] [] false 0 true (lookL f99_tab) f99_call
def f99_G0 : List TV→List Entry→(TV→List Entry→Prop)→Prop:=fun tm hp K=>getS [.v (.one (.int .i64))] [] tm hp fun (xx : (Int×Unit)) (yy : Unit)=>f99 xx.1 (fun b0_0=>K (B b0_0) [])
theorem f99_eq (n_1 : Int) (K : TV→List Entry→Prop) : (f99_d n_1 (fun b0_0=>K (B b0_0) [])) = funcT f99_C Tryz.f99 [I n_1] [] K:=by kernel_rfl
set_option maxHeartbeats 4000000 in
theorem f99_ok0 : FnOk Tryz.prog glob 99 f99_G0:=by
  refine FnOk.of_text (C:=f99_C) tab_ok.ok (Known.none) follows_ok (fn:=Tryz.f99) (by kernel_rfl) (by kernel_rfl) (by kernel_rfl) (fun c hc=>?_) fun tm hp K h=>?_
  · have e : c = bodyOf Tryz.f99:=Option.some.inj (hc.symm.trans (by kernel_rfl))
    subst e
    exact ⟨LoopsOk.of [] (by kernel_rfl) trivial,TailsOk.of (tab:=f99_tab) rfl [] (by kernel_rfl) trivial⟩
  · unfold f99_G0 at h
    obtain ⟨xx,yy,rfl,rfl,h⟩:=getS_elim h
    have e:=(f99_eq xx.1 K).trans (show _ = funcT f99_C Tryz.f99 (mkR _ xx) (mkE _ yy) K by kernel_rfl)
    rw [← e]
    exact h.run
abbrev f99_G:=f99_G0
theorem f99_G_ok : FnOk Tryz.prog glob 99 f99_G:=f99_ok0
def f79_d (n1 n2 : Int) (n3 n4 : Int) (n5 n6 : Int) (n7 n8 : Int) (n9 n10 : Int) (n11 n12 : Int) (k0 : Bool→Prop) : Prop:=f30 n1 n2 n3 n4 n5 n6 n7 n8 n9 n10 n11 (fun n13=>bB (n13 == 0) (f99 n12 (fun b14=>bB b14 (f100 n1 n2 n3 n4 n5 n6 n7 n8 n9 n10 n11 (fun n15 n16=>f116 n12 n15 n16 (fun b17 n18 n19=>k0 b17)) (fun n20 n21 n22 n23 n24 n25 n26 n27 n28 n29 n30=>f117 n12 n20 n21 n22 n23 n24 n25 n26 n27 n28 n29 n30 (fun b31 n32 n33 n34 n35 n36 n37 n38 n39 n40 n41 n42=>k0 b31))) (k0 false))) (k0 false))
structure f79 (n1 n2 : Int) (n3 n4 : Int) (n5 n6 : Int) (n7 n8 : Int) (n9 n10 : Int) (n11 n12 : Int) (k0 : Bool→Prop) : Prop where
  run : f79_d n1 n2 n3 n4 n5 n6 n7 n8 n9 n10 n11 n12 k0
def f79_tab : List (Nat×Told):=[]
def f79_call : FuncId→List TV→List Entry→(TV→List Entry→Prop)→Prop:=addCall 117 f117_G (addCall 116 f116_G (addCall 100 f100_G (addCall 99 f99_G (addCall 30 f30_G (noCalls)))))
def f79_C : Ctx:=mkC [] [] [] [] [] false 0 true (lookL f79_tab) f79_call
def f79_G0 : List TV→List Entry→(TV→List Entry→Prop)→Prop:=fun tm hp K=>getS [.v (.pagg [.int .i64,.int .i64,.int .i64,.int .i64,.int .i64,.int .i64,.int .i64,.int .i64,.int .i64,.int .i64,.int .i64]),.v (.one (.int .i64))] [] tm hp fun (xx : ((Int×(Int×(Int×(Int×(Int×(Int×(Int×(Int×(Int×(Int×(Int×Unit)))))))))))×(Int×Unit))) (yy : Unit)=>f79 xx.1.1 xx.1.2.1 xx.1.2.2.1 xx.1.2.2.2.1 xx.1.2.2.2.2.1 xx.1.2.2.2.2.2.1 xx.1.2.2.2.2.2.2.1 xx.1.2.2.2.2.2.2.2.1 xx.1.2.2.2.2.2.2.2.2.1 xx.1.2.2.2.2.2.2.2.2.2.1 xx.1.2.2.2.2.2.2.2.2.2.2.1 xx.2.1 (fun b0_0=>K (B b0_0) [])
theorem f79_eq (n_1 n_2 : Int) (n_3 n_4 : Int) (n_5 n_6 : Int) (n_7 n_8 : Int) (n_9 n_10 : Int) (n_11 n_12 : Int) (K : TV→List Entry→Prop) : (f79_d n_1 n_2 n_3 n_4 n_5 n_6 n_7 n_8 n_9 n_10 n_11 n_12 (fun b0_0=>K (B b0_0) [])) = funcT f79_C Tryz.f79 [.w (.pagg [pI n_1,pI n_2,pI n_3,pI n_4,pI n_5,pI n_6,pI n_7,pI n_8,pI n_9,pI n_10,pI n_11]),I n_12] [] K:=by kernel_rfl
set_option maxHeartbeats 4000000 in
theorem f79_ok0 : FnOk Tryz.prog glob 79 f79_G0:=by
  refine FnOk.of_text (C:=f79_C) tab_ok.ok (Known.add f117_G_ok (Known.add f116_G_ok (Known.add f100_G_ok (Known.add f99_G_ok (Known.add f30_G_ok (Known.none)))))) follows_ok (fn:=Tryz.f79) (by kernel_rfl) (by kernel_rfl) (by kernel_rfl) (fun c hc=>?_) fun tm hp K h=>?_
  · have e : c = bodyOf Tryz.f79:=Option.some.inj (hc.symm.trans (by kernel_rfl))
    subst e
    exact ⟨LoopsOk.of [] (by kernel_rfl) trivial,TailsOk.of (tab:=f79_tab) rfl [] (by kernel_rfl) trivial⟩
  · unfold f79_G0 at h
    obtain ⟨xx,yy,rfl,rfl,h⟩:=getS_elim h
    have e:=(f79_eq xx.1.1 xx.1.2.1 xx.1.2.2.1 xx.1.2.2.2.1 xx.1.2.2.2.2.1 xx.1.2.2.2.2.2.1 xx.1.2.2.2.2.2.2.1 xx.1.2.2.2.2.2.2.2.1 xx.1.2.2.2.2.2.2.2.2.1 xx.1.2.2.2.2.2.2.2.2.2.1 xx.1.2.2.2.2.2.2.2.2.2.2.1 xx.2.1 K).trans (show _ = funcT f79_C Tryz.f79 (mkR _ xx) (mkE _ yy) K by kernel_rfl)
    rw [← e]
    exact h.run
abbrev f79_G:=f79_G0
theorem f79_G_ok : FnOk Tryz.prog glob 79 f79_G:=f79_ok0
def f33_d (n1 : Int) (k0 : Bool→Prop) : Prop:=bB (decide ((0 : Int)≤n1)) (k0 (decide (n1≤73048))) (k0 false)
structure f33 (n1 : Int) (k0 : Bool→Prop) : Prop where
  run : f33_d n1 k0
def f33_tab : List (Nat×Told):=[]
def f33_call : FuncId→List TV→List Entry→(TV→List Entry→Prop)→Prop:=noCalls
def f33_C : Ctx:=mkC [] [] [] [] [] false 0 true (lookL f33_tab) f33_call
def f33_G0 : List TV→List Entry→(TV→List Entry→Prop)→Prop:=fun tm hp K=>getS [.v (.one (.int .i64))] [] tm hp fun (xx : (Int×Unit)) (yy : Unit)=>f33 xx.1 (fun b0_0=>K (B b0_0) [])
theorem f33_eq (n_1 : Int) (K : TV→List Entry→Prop) : (f33_d n_1 (fun b0_0=>K (B b0_0) [])) = funcT f33_C Tryz.f33 [I n_1] [] K:=by kernel_rfl
set_option maxHeartbeats 4000000 in
theorem f33_ok0 : FnOk Tryz.prog glob 33 f33_G0:=by
  refine FnOk.of_text (C:=f33_C) tab_ok.ok (Known.none) follows_ok (fn:=Tryz.f33) (by kernel_rfl) (by kernel_rfl) (by kernel_rfl) (fun c hc=>?_) fun tm hp K h=>?_
  · have e : c = bodyOf Tryz.f33:=Option.some.inj (hc.symm.trans (by kernel_rfl))
    subst e
    exact ⟨LoopsOk.of [] (by kernel_rfl) trivial,TailsOk.of (tab:=f33_tab) rfl [] (by kernel_rfl) trivial⟩
  · unfold f33_G0 at h
    obtain ⟨xx,yy,rfl,rfl,h⟩:=getS_elim h
    have e:=(f33_eq xx.1 K).trans (show _ = funcT f33_C Tryz.f33 (mkR _ xx) (mkE _ yy) K by kernel_rfl)
    rw [← e]
    exact h.run
abbrev f33_G:=f33_G0
theorem f33_G_ok : FnOk Tryz.prog glob 33 f33_G:=f33_ok0
def f66_d (n1 : Int) (k0 : Bool→Prop) : Prop:=bB (decide (n1≥48)) (k0 (decide (n1≤57))) (k0 false)
structure f66 (n1 : Int) (k0 : Bool→Prop) : Prop where
  run : f66_d n1 k0
def f66_tab : List (Nat×Told):=[]
def f66_call : FuncId→List TV→List Entry→(TV→List Entry→Prop)→Prop:=noCalls
def f66_C : Ctx:=mkC [] [] [] [] [] false 0 true (lookL f66_tab) f66_call
def f66_G0 : List TV→List Entry→(TV→List Entry→Prop)→Prop:=fun tm hp K=>getS [.v (.one (.int .u8))] [] tm hp fun (xx : (Int×Unit)) (yy : Unit)=>f66 xx.1 (fun b0_0=>K (B b0_0) [])
theorem f66_eq (n_1 : Int) (K : TV→List Entry→Prop) : (f66_d n_1 (fun b0_0=>K (B b0_0) [])) = funcT f66_C Tryz.f66 [.w (.one (.p (.c (.int .u8 n_1))))] [] K:=by kernel_rfl
set_option maxHeartbeats 4000000 in
theorem f66_ok0 : FnOk Tryz.prog glob 66 f66_G0:=by
  refine FnOk.of_text (C:=f66_C) tab_ok.ok (Known.none) follows_ok (fn:=Tryz.f66) (by kernel_rfl) (by kernel_rfl) (by kernel_rfl) (fun c hc=>?_) fun tm hp K h=>?_
  · have e : c = bodyOf Tryz.f66:=Option.some.inj (hc.symm.trans (by kernel_rfl))
    subst e
    exact ⟨LoopsOk.of [] (by kernel_rfl) trivial,TailsOk.of (tab:=f66_tab) rfl [] (by kernel_rfl) trivial⟩
  · unfold f66_G0 at h
    obtain ⟨xx,yy,rfl,rfl,h⟩:=getS_elim h
    have e:=(f66_eq xx.1 K).trans (show _ = funcT f66_C Tryz.f66 (mkR _ xx) (mkE _ yy) K by kernel_rfl)
    rw [← e]
    exact h.run
abbrev f66_G:=f66_G0
theorem f66_G_ok : FnOk Tryz.prog glob 66 f66_G:=f66_ok0
def f65_d (n1 : Int) (s2 : ByteArray) (k0 : Bool→ByteArray→Prop) : Prop:=(0≤n1∧n1 < (s2.size : Int))∧bB (decide ((byteAt s2 n1)≥97)) ((0≤n1∧n1 < (s2.size : Int))∧bB (decide ((byteAt s2 n1)≤122)) (k0 true s2) ((0≤n1∧n1 < (s2.size : Int))∧f66 (byteAt s2 n1) (fun b3=>bB b3 (k0 true s2) ((0≤n1∧n1 < (s2.size : Int))∧k0 ((byteAt s2 n1) == 95) s2)))) ((0≤n1∧n1 < (s2.size : Int))∧f66 (byteAt s2 n1) (fun b4=>bB b4 (k0 true s2) ((0≤n1∧n1 < (s2.size : Int))∧k0 ((byteAt s2 n1) == 95) s2)))
structure f65 (n1 : Int) (s2 : ByteArray) (k0 : Bool→ByteArray→Prop) : Prop where
  run : f65_d n1 s2 k0
def f65_tab : List (Nat×Told):=[]
def f65_call : FuncId→List TV→List Entry→(TV→List Entry→Prop)→Prop:=addCall 66 f66_G (noCalls)
def f65_C : Ctx:=mkC [] [] [] [] [] false 1 true (lookL f65_tab) f65_call
def f65_G0 : List TV→List Entry→(TV→List Entry→Prop)→Prop:=fun tm hp K=>getS [.v (.one (.int .i64)),.v (.one (.ptr 0 0 0))] [.box [.str]] tm hp fun (xx : (Int×(Unit×Unit))) (yy : ((ByteArray×Unit)×Unit))=>f65 xx.1 yy.1.1 (fun b0_0 s0_1=>K (B b0_0) [.box [.p (pS s0_1)]])
theorem f65_eq (n_2 : Int) (s_3 : ByteArray) (K : TV→List Entry→Prop) : (f65_d n_2 s_3 (fun b0_0 s0_1=>K (B b0_0) [.box [.p (pS s0_1)]])) = funcT f65_C Tryz.f65 [I n_2,.w (.one (.ptr 0 0 0))] [.box [.p (pS s_3)]] K:=by kernel_rfl
set_option maxHeartbeats 4000000 in
theorem f65_ok0 : FnOk Tryz.prog glob 65 f65_G0:=by
  refine FnOk.of_text (C:=f65_C) tab_ok.ok (Known.add f66_G_ok (Known.none)) follows_ok (fn:=Tryz.f65) (by kernel_rfl) (by kernel_rfl) (by kernel_rfl) (fun c hc=>?_) fun tm hp K h=>?_
  · have e : c = bodyOf Tryz.f65:=Option.some.inj (hc.symm.trans (by kernel_rfl))
    subst e
    exact ⟨LoopsOk.of [] (by kernel_rfl) trivial,TailsOk.of (tab:=f65_tab) rfl [] (by kernel_rfl) trivial⟩
  · unfold f65_G0 at h
    obtain ⟨xx,yy,rfl,rfl,h⟩:=getS_elim h
    have e:=(f65_eq xx.1 yy.1.1 K).trans (show _ = funcT f65_C Tryz.f65 (mkR _ xx) (mkE _ yy) K by kernel_rfl)
    rw [← e]
    exact h.run
abbrev f65_G:=f65_G0
theorem f65_G_ok : FnOk Tryz.prog glob 65 f65_G:=f65_ok0
def f64_p2b0 (s4 : ByteArray) (n5 : Int) (s6 : ByteArray) (N0 : Int→ByteArray→Prop) (k0 : Int→ByteArray→Prop) : Prop:=bB (decide (n5 < (s4.size : Int))) (f65 n5 s6 (fun b7 s8=>bB b7 (N0 (w64 (n5 + 1)) s8) (k0 n5 s8))) (k0 n5 s6)
def f64_p2 (s4 : ByteArray) (k0 : Int→ByteArray→Prop) : Int×ByteArray→Prop:=LoopP fun x N=>f64_p2b0 s4 x.1 x.2 (fun n5 s6=>N (n5,s6)) k0
def f64_d (s1 : ByteArray) (n2 : Int) (s3 : ByteArray) (k0 : Int→ByteArray→Prop) : Prop:=f64_p2 s1 (fun n9 s10=>k0 n9 s10) (n2,s3)
structure f64 (s1 : ByteArray) (n2 : Int) (s3 : ByteArray) (k0 : Int→ByteArray→Prop) : Prop where
  run : f64_d s1 n2 s3 k0
def f64_p2L : Told:=fun s K=>match s with
  | ⟨tm,hp⟩=>getS [.v (.one (.str)),.v (.one (.int .i64)),.v (.clo 65 [] [.ptr 0 0 0]),.skip 16] [.box [.str]] tm hp fun (xx : (ByteArray×(Int×((Unit×(Unit×Unit))×(Unit×Unit))))) (yy : ((ByteArray×Unit)×Unit))=>f64_p2 xx.1 (fun n0_0 s0_1=>K (.exit 0) ⟨mkS 19 [(1,I n0_0)],[.box [.p (pS s0_1)]]⟩) (xx.2.1,yy.1.1)
def f64_tab : List (Nat×Told):=[(2,f64_p2L)]
def f64_call : FuncId→List TV→List Entry→(TV→List Entry→Prop)→Prop:=addCall 65 f65_G (noCalls)
def f64_C : Ctx:=mkC [(2,[(0,[0,1,2]),(2,[6]),(3,[1])])] [] [] [] [] false 1 true (lookL f64_tab) f64_call
def f64_p2_mk (s4 : ByteArray) (x : Int×ByteArray) : St:=⟨mkS 19 [(0,S s4),(1,I x.1),(2,.w (.one (.clo 65 [] [.ptr 0 0 0])))],[.box [.p (pS x.2)]]⟩
theorem f64_p2e0 (s_7 : ByteArray) (n_8 : Int) (s_9 : ByteArray) (N : St→Prop) (K : TExit→St→Prop) : (f64_p2b0 s_7 n_8 s_9 (fun z1 z2=>N (f64_p2_mk s_7 (z1,z2))) (fun n0_10 s0_11=>K (.exit 0) ⟨mkS 19 [(1,I n0_10)],[.box [.p (pS s0_11)]]⟩)) = execT f64_C (bd Tryz.f64 0) (f64_p2_mk s_7 (n_8,s_9)) (loopK N (normK f64_C 2) fun e s=>K e (normOut f64_C 2 e s)):=by kernel_rfl
set_option maxHeartbeats 4000000 in
theorem f64_p2_ok : LoopOk f64_C (bd Tryz.f64 0):=by
  refine LoopOk.of f64_p2L (by kernel_rfl) fun σ K h=>?_
  have hk : loopKey (bd Tryz.f64 0) = 2:=by kernel_rfl
  rw [hk] at h ⊢
  generalize hs : normK f64_C 2 σ = s at h
  obtain ⟨tm,hp⟩:=s
  unfold f64_p2L at h
  dsimp only at h
  obtain ⟨xx,yy,rfl,rfl,h⟩:=getS_elim h
  refine iter_of (f64_p2_mk xx.1) (fun x N h=>?_) rounds _ σ (hs.trans (by kernel_rfl)) (LoopP.run h)
  obtain ⟨y0,y1⟩:=x
  rw [← f64_p2e0 xx.1 y0 y1 N K]
  exact h
def f64_G0 : List TV→List Entry→(TV→List Entry→Prop)→Prop:=fun tm hp K=>getS [.v (.one (.str)),.v (.one (.int .i64)),.v (.clo 65 [] [.ptr 0 0 0])] [.box [.str]] tm hp fun (xx : (ByteArray×(Int×((Unit×(Unit×Unit))×Unit)))) (yy : ((ByteArray×Unit)×Unit))=>f64 xx.1 xx.2.1 yy.1.1 (fun n0_2 s0_3=>K (I n0_2) [.box [.p (pS s0_3)]])
theorem f64_eq (s_12 : ByteArray) (n_13 : Int) (s_14 : ByteArray) (K : TV→List Entry→Prop) : (f64_d s_12 n_13 s_14 (fun n0_2 s0_3=>K (I n0_2) [.box [.p (pS s0_3)]])) = funcT f64_C Tryz.f64 [S s_12,I n_13,.w (.one (.clo 65 [] [.ptr 0 0 0]))] [.box [.p (pS s_14)]] K:=by kernel_rfl
set_option maxHeartbeats 4000000 in
theorem f64_ok0 : FnOk Tryz.prog glob 64 f64_G0:=by
  refine FnOk.of_text (C:=f64_C) tab_ok.ok (Known.add f65_G_ok (Known.none)) follows_ok (fn:=Tryz.f64) (by kernel_rfl) (by kernel_rfl) (by kernel_rfl) (fun c hc=>?_) fun tm hp K h=>?_
  · have e : c = bodyOf Tryz.f64:=Option.some.inj (hc.symm.trans (by kernel_rfl))
    subst e
    exact ⟨LoopsOk.of [bd Tryz.f64 0] (by kernel_rfl) ⟨f64_p2_ok,trivial⟩,TailsOk.of (tab:=f64_tab) rfl [] (by kernel_rfl) trivial⟩
  · unfold f64_G0 at h
    obtain ⟨xx,yy,rfl,rfl,h⟩:=getS_elim h
    have e:=(f64_eq xx.1 xx.2.1 yy.1.1 K).trans (show _ = funcT f64_C Tryz.f64 (mkR _ xx) (mkE _ yy) K by kernel_rfl)
    rw [← e]
    exact h.run
abbrev f64_G:=f64_G0
theorem f64_G_ok : FnOk Tryz.prog glob 64 f64_G:=f64_ok0
def f29_d (s1 : ByteArray) (k0 : Bool→Prop) : Prop:=bB (decide ((s1.size : Int) < 1)) (k0 false) (bB (decide ((s1.size : Int) > 24)) (k0 false) ((0≤(0 : Int)∧(0 : Int) < (s1.size : Int))∧bB (decide ((byteAt s1 0) < 97)) (k0 false) ((0≤(0 : Int)∧(0 : Int) < (s1.size : Int))∧bB (decide ((byteAt s1 0) > 122)) (k0 false) ((f64 s1 0 s1 (fun n2 s3=>k0 (n2 == (s3.size : Int))))∧(f64 s1 0 s1 (fun n4 s5=>k0 (n4 == (s1.size : Int))))))))
structure f29 (s1 : ByteArray) (k0 : Bool→Prop) : Prop where
  run : f29_d s1 k0
def f29_tab : List (Nat×Told):=[]
def f29_call : FuncId→List TV→List Entry→(TV→List Entry→Prop)→Prop:=addCall 64 f64_G (noCalls)
def f29_C : Ctx:=mkC [] [(3,[3])] [] [] [] false 0 true (lookL f29_tab) f29_call
def f29_G0 : List TV→List Entry→(TV→List Entry→Prop)→Prop:=fun tm hp K=>getS [.v (.one (.str))] [] tm hp fun (xx : (ByteArray×Unit)) (yy : Unit)=>f29 xx.1 (fun b0_0=>K (B b0_0) [])
theorem f29_eq (s_1 : ByteArray) (K : TV→List Entry→Prop) : (f29_d s_1 (fun b0_0=>K (B b0_0) [])) = funcT f29_C Tryz.f29 [S s_1] [] K:=by kernel_rfl
set_option maxHeartbeats 4000000 in
theorem f29_ok0 : FnOk Tryz.prog glob 29 f29_G0:=by
  refine FnOk.of_text (C:=f29_C) tab_ok.ok (Known.add f64_G_ok (Known.none)) follows_ok (fn:=Tryz.f29) (by kernel_rfl) (by kernel_rfl) (by kernel_rfl) (fun c hc=>?_) fun tm hp K h=>?_
  · have e : c = bodyOf Tryz.f29:=Option.some.inj (hc.symm.trans (by kernel_rfl))
    subst e
    exact ⟨LoopsOk.of [] (by kernel_rfl) trivial,TailsOk.of (tab:=f29_tab) rfl [] (by kernel_rfl) trivial⟩
  · unfold f29_G0 at h
    obtain ⟨xx,yy,rfl,rfl,h⟩:=getS_elim h
    have e:=(f29_eq xx.1 K).trans (show _ = funcT f29_C Tryz.f29 (mkR _ xx) (mkE _ yy) K by kernel_rfl)
    rw [← e]
    exact h.run
abbrev f29_G:=f29_G0
theorem f29_G_ok : FnOk Tryz.prog glob 29 f29_G:=f29_ok0
def f71_d (n1 : Int) (k0 : Bool→Prop) : Prop:=bB (decide (n1≥97)) (k0 (decide (n1≤122))) (k0 false)
structure f71 (n1 : Int) (k0 : Bool→Prop) : Prop where
  run : f71_d n1 k0
def f71_tab : List (Nat×Told):=[]
def f71_call : FuncId→List TV→List Entry→(TV→List Entry→Prop)→Prop:=noCalls
def f71_C : Ctx:=mkC [] [] [] [] [] false 0 true (lookL f71_tab) f71_call
def f71_G0 : List TV→List Entry→(TV→List Entry→Prop)→Prop:=fun tm hp K=>getS [.v (.one (.int .u8))] [] tm hp fun (xx : (Int×Unit)) (yy : Unit)=>f71 xx.1 (fun b0_0=>K (B b0_0) [])
theorem f71_eq (n_1 : Int) (K : TV→List Entry→Prop) : (f71_d n_1 (fun b0_0=>K (B b0_0) [])) = funcT f71_C Tryz.f71 [.w (.one (.p (.c (.int .u8 n_1))))] [] K:=by kernel_rfl
set_option maxHeartbeats 4000000 in
theorem f71_ok0 : FnOk Tryz.prog glob 71 f71_G0:=by
  refine FnOk.of_text (C:=f71_C) tab_ok.ok (Known.none) follows_ok (fn:=Tryz.f71) (by kernel_rfl) (by kernel_rfl) (by kernel_rfl) (fun c hc=>?_) fun tm hp K h=>?_
  · have e : c = bodyOf Tryz.f71:=Option.some.inj (hc.symm.trans (by kernel_rfl))
    subst e
    exact ⟨LoopsOk.of [] (by kernel_rfl) trivial,TailsOk.of (tab:=f71_tab) rfl [] (by kernel_rfl) trivial⟩
  · unfold f71_G0 at h
    obtain ⟨xx,yy,rfl,rfl,h⟩:=getS_elim h
    have e:=(f71_eq xx.1 K).trans (show _ = funcT f71_C Tryz.f71 (mkR _ xx) (mkE _ yy) K by kernel_rfl)
    rw [← e]
    exact h.run
abbrev f71_G:=f71_G0
theorem f71_G_ok : FnOk Tryz.prog glob 71 f71_G:=f71_ok0
def f72_d (n1 : Int) (k0 : Bool→Prop) : Prop:=bB (decide (n1≥48)) (k0 (decide (n1≤57))) (k0 false)
structure f72 (n1 : Int) (k0 : Bool→Prop) : Prop where
  run : f72_d n1 k0
def f72_tab : List (Nat×Told):=[]
def f72_call : FuncId→List TV→List Entry→(TV→List Entry→Prop)→Prop:=noCalls
def f72_C : Ctx:=mkC [] [] [] [] [] false 0 true (lookL f72_tab) f72_call
def f72_G0 : List TV→List Entry→(TV→List Entry→Prop)→Prop:=fun tm hp K=>getS [.v (.one (.int .u8))] [] tm hp fun (xx : (Int×Unit)) (yy : Unit)=>f72 xx.1 (fun b0_0=>K (B b0_0) [])
theorem f72_eq (n_1 : Int) (K : TV→List Entry→Prop) : (f72_d n_1 (fun b0_0=>K (B b0_0) [])) = funcT f72_C Tryz.f72 [.w (.one (.p (.c (.int .u8 n_1))))] [] K:=by kernel_rfl
set_option maxHeartbeats 4000000 in
theorem f72_ok0 : FnOk Tryz.prog glob 72 f72_G0:=by
  refine FnOk.of_text (C:=f72_C) tab_ok.ok (Known.none) follows_ok (fn:=Tryz.f72) (by kernel_rfl) (by kernel_rfl) (by kernel_rfl) (fun c hc=>?_) fun tm hp K h=>?_
  · have e : c = bodyOf Tryz.f72:=Option.some.inj (hc.symm.trans (by kernel_rfl))
    subst e
    exact ⟨LoopsOk.of [] (by kernel_rfl) trivial,TailsOk.of (tab:=f72_tab) rfl [] (by kernel_rfl) trivial⟩
  · unfold f72_G0 at h
    obtain ⟨xx,yy,rfl,rfl,h⟩:=getS_elim h
    have e:=(f72_eq xx.1 K).trans (show _ = funcT f72_C Tryz.f72 (mkR _ xx) (mkE _ yy) K by kernel_rfl)
    rw [← e]
    exact h.run
abbrev f72_G:=f72_G0
theorem f72_G_ok : FnOk Tryz.prog glob 72 f72_G:=f72_ok0
def f31_p8b0 (s4 : ByteArray) (n5 : Int) (N0 : Int→Prop) (k0 : Bool→Prop) (k1 : Unit→Prop) : Prop:=bB (decide (n5 < (s4.size : Int))) ((0≤n5∧n5 < (s4.size : Int))∧f71 (byteAt s4 n5) (fun b6=>bB (!b6) ((0≤n5∧n5 < (s4.size : Int))∧f72 (byteAt s4 n5) (fun b7=>bB (!b7) ((0≤n5∧n5 < (s4.size : Int))∧bB ((byteAt s4 n5) != 95) (k0 false) (N0 (w64 (n5 + 1)))) (N0 (w64 (n5 + 1))))) (N0 (w64 (n5 + 1))))) (k1 ())
def f31_p8 (s4 : ByteArray) (k0 : Bool→Prop) (k1 : Unit→Prop) : Int→Prop:=LoopP fun x N=>f31_p8b0 s4 x (fun n5=>N n5) k0 k1
def f31_p7 (s3 : ByteArray) (k0 : Bool→Prop) : Prop:=f31_p8 s3 k0 (fun (_ : Unit)=>k0 true) 1
def f31_d (s1 : ByteArray) (k0 : Bool→Prop) : Prop:=bB (decide ((s1.size : Int) < 1)) (k0 false) (bB (decide ((s1.size : Int) > 24)) (k0 false) ((0≤(0 : Int)∧(0 : Int) < (s1.size : Int))∧f71 (byteAt s1 0) (fun b2=>bB (!b2) (k0 false) (f31_p7 s1 k0))))
structure f31 (s1 : ByteArray) (k0 : Bool→Prop) : Prop where
  run : f31_d s1 k0
def f31_p8L : Told:=fun s K=>match s with
  | ⟨tm,hp⟩=>getS [.v (.one (.str)),.skip 2,.v (.one (.int .i64)),.skip 38] [] tm hp fun (xx : (ByteArray×(Unit×(Int×(Unit×Unit))))) (yy : Unit)=>f31_p8 xx.1 (fun b0_0=>K .ret ⟨mkS 42 [(2,B b0_0)],[]⟩) (fun (_ : Unit)=>K (.exit 0) ⟨mkS 42 [],[]⟩) xx.2.2.1
def f31_p7L : Told:=fun s K=>match s with
  | ⟨tm,hp⟩=>getS [.v (.one (.str)),.skip 41] [] tm hp fun (xx : (ByteArray×(Unit×Unit))) (yy : Unit)=>f31_p7 xx.1 (fun b0_1=>K .ret ⟨mkS 42 [(2,B b0_1)],[]⟩)
def f31_tab : List (Nat×Told):=[(8,f31_p8L),(7,f31_p7L)]
def f31_call : FuncId→List TV→List Entry→(TV→List Entry→Prop)→Prop:=addCall 72 f72_G (addCall 71 f71_G (noCalls))
def f31_C : Ctx:=mkC [(8,[(0,[0,3]),(2,[2]),(3,[])]),(7,[(0,[0]),(1,[2]),(2,[2])])] [] [] [] [] false 0 true (lookL f31_tab) f31_call
def f31_p8_mk (s4 : ByteArray) (x : Int) : St:=⟨mkS 42 [(0,S s4),(3,I x)],[]⟩
theorem f31_p8e0 (s_5 : ByteArray) (n_6 : Int) (N : St→Prop) (K : TExit→St→Prop) : (f31_p8b0 s_5 n_6 (fun z1=>N (f31_p8_mk s_5 z1)) (fun b0_7=>K .ret ⟨mkS 42 [(2,B b0_7)],[]⟩) (fun (_ : Unit)=>K (.exit 0) ⟨mkS 42 [],[]⟩)) = execT f31_C (bd Tryz.f31 0) (f31_p8_mk s_5 n_6) (loopK N (normK f31_C 8) fun e s=>K e (normOut f31_C 8 e s)):=by kernel_rfl
theorem f31_p7e0 (s_8 : ByteArray) (K : TExit→St→Prop) : (f31_p7 s_8 (fun b0_9=>K .ret ⟨mkS 42 [(2,B b0_9)],[]⟩)) = execT f31_C (nthC (tails (bodyOf Tryz.f31)) 1) ⟨mkS 42 [(0,S s_8)],[]⟩ (fun e s=>K e (normOut f31_C 7 e s)):=by kernel_rfl
set_option maxHeartbeats 4000000 in
theorem f31_p8_ok : LoopOk f31_C (bd Tryz.f31 0):=by
  refine LoopOk.of f31_p8L (by kernel_rfl) fun σ K h=>?_
  have hk : loopKey (bd Tryz.f31 0) = 8:=by kernel_rfl
  rw [hk] at h ⊢
  generalize hs : normK f31_C 8 σ = s at h
  obtain ⟨tm,hp⟩:=s
  unfold f31_p8L at h
  dsimp only at h
  obtain ⟨xx,yy,rfl,rfl,h⟩:=getS_elim h
  refine iter_of (f31_p8_mk xx.1) (fun x N h=>?_) rounds _ σ (hs.trans (by kernel_rfl)) (LoopP.run h)
  rw [← f31_p8e0 xx.1 x N K]
  exact h
set_option maxHeartbeats 4000000 in
theorem f31_p7_ok : TailOk f31_C (nthC (tails (bodyOf Tryz.f31)) 1):=by
  refine TailOk.of f31_p7L (by kernel_rfl) fun σ K h=>?_
  have hk : joinKey (nthC (tails (bodyOf Tryz.f31)) 1) = 7:=by kernel_rfl
  rw [hk] at h ⊢
  generalize hs : normK f31_C 7 σ = s at h
  obtain ⟨tm,hp⟩:=s
  unfold f31_p7L at h
  dsimp only at h
  obtain ⟨xx,yy,rfl,rfl,h⟩:=getS_elim h
  have q : normK f31_C 7 σ = (⟨mkS 42 [(0,S xx.1)],[]⟩ : St):=hs.trans (by kernel_rfl)
  rw [← hs,q,← f31_p7e0 xx.1 K]
  exact h
def f31_G0 : List TV→List Entry→(TV→List Entry→Prop)→Prop:=fun tm hp K=>getS [.v (.one (.str))] [] tm hp fun (xx : (ByteArray×Unit)) (yy : Unit)=>f31 xx.1 (fun b0_2=>K (B b0_2) [])
theorem f31_eq (s_10 : ByteArray) (K : TV→List Entry→Prop) : (f31_d s_10 (fun b0_2=>K (B b0_2) [])) = funcT f31_C Tryz.f31 [S s_10] [] K:=by kernel_rfl
set_option maxHeartbeats 4000000 in
theorem f31_ok0 : FnOk Tryz.prog glob 31 f31_G0:=by
  refine FnOk.of_text (C:=f31_C) tab_ok.ok (Known.add f72_G_ok (Known.add f71_G_ok (Known.none))) follows_ok (fn:=Tryz.f31) (by kernel_rfl) (by kernel_rfl) (by kernel_rfl) (fun c hc=>?_) fun tm hp K h=>?_
  · have e : c = bodyOf Tryz.f31:=Option.some.inj (hc.symm.trans (by kernel_rfl))
    subst e
    exact ⟨LoopsOk.of [bd Tryz.f31 0] (by kernel_rfl) ⟨f31_p8_ok,trivial⟩,TailsOk.of (tab:=f31_tab) rfl [nthC (tails (bodyOf Tryz.f31)) 1] (by kernel_rfl) ⟨f31_p7_ok,trivial⟩⟩
  · unfold f31_G0 at h
    obtain ⟨xx,yy,rfl,rfl,h⟩:=getS_elim h
    have e:=(f31_eq xx.1 K).trans (show _ = funcT f31_C Tryz.f31 (mkR _ xx) (mkE _ yy) K by kernel_rfl)
    rw [← e]
    exact h.run
abbrev f31_G:=f31_G0
theorem f31_G_ok : FnOk Tryz.prog glob 31 f31_G:=f31_ok0
def f80_p14b0 (n18 n19 : Int) (n20 n21 : Int) (N0 : Int→Int→Int→Int→Prop) (N1 : Int→Int→Int→Int→Int→Int→Int→Int→Int→Int→Int→Int→Int→Prop) (k0 : Int→Int→Prop) (k1 : Unit→Prop) : Prop:=f99 n18 (fun b22=>bB b22 (f116 n18 n20 n21 (fun b23 n24 n25=>bB b23 (k0 n18 0) (N0 (w64 (n18 + n19)) n19 n24 n25))) (k1 ()))
def f80_p14b1 (n26 n27 : Int) (n28 n29 : Int) (n30 n31 : Int) (n32 n33 : Int) (n34 n35 : Int) (n36 n37 n38 : Int) (N0 : Int→Int→Int→Int→Prop) (N1 : Int→Int→Int→Int→Int→Int→Int→Int→Int→Int→Int→Int→Int→Prop) (k0 : Int→Int→Prop) (k1 : Unit→Prop) : Prop:=f99 n26 (fun b39=>bB b39 (f117 n26 n28 n29 n30 n31 n32 n33 n34 n35 n36 n37 n38 (fun b40 n41 n42 n43 n44 n45 n46 n47 n48 n49 n50 n51=>bB b40 (k0 n26 0) (N1 (w64 (n26 + n27)) n27 n41 n42 n43 n44 n45 n46 n47 n48 n49 n50 n51))) (k1 ()))
def f80_p14 (k0 : Int→Int→Prop) (k1 : Unit→Prop) : (Int×Int×Int×Int) ⊕ (Int×Int×Int×Int×Int×Int×Int×Int×Int×Int×Int×Int×Int)→Prop:=LoopP fun x N=>match x with
  | (.inl x)=>f80_p14b0 x.1 x.2.1 x.2.2.1 x.2.2.2 (fun n18 n19 n20 n21=>N (.inl (n18,n19,n20,n21))) (fun n26 n27 n28 n29 n30 n31 n32 n33 n34 n35 n36 n37 n38=>N (.inr (n26,n27,n28,n29,n30,n31,n32,n33,n34,n35,n36,n37,n38))) k0 k1
  | (.inr x)=>f80_p14b1 x.1 x.2.1 x.2.2.1 x.2.2.2.1 x.2.2.2.2.1 x.2.2.2.2.2.1 x.2.2.2.2.2.2.1 x.2.2.2.2.2.2.2.1 x.2.2.2.2.2.2.2.2.1 x.2.2.2.2.2.2.2.2.2.1 x.2.2.2.2.2.2.2.2.2.2.1 x.2.2.2.2.2.2.2.2.2.2.2.1 x.2.2.2.2.2.2.2.2.2.2.2.2 (fun n18 n19 n20 n21=>N (.inl (n18,n19,n20,n21))) (fun n26 n27 n28 n29 n30 n31 n32 n33 n34 n35 n36 n37 n38=>N (.inr (n26,n27,n28,n29,n30,n31,n32,n33,n34,n35,n36,n37,n38))) k0 k1
def f80_d (n1 n2 : Int) (n3 n4 : Int) (n5 n6 : Int) (n7 n8 : Int) (n9 n10 : Int) (n11 n12 n13 : Int) (k0 : Int→Int→Prop) : Prop:=f30 n1 n2 n3 n4 n5 n6 n7 n8 n9 n10 n11 (fun n14=>bB (n14 != 0) (k0 0 n14) (f99 n12 (fun b15=>bB (!b15) (k0 0 1) (f100 n1 n2 n3 n4 n5 n6 n7 n8 n9 n10 n11 (fun n16 n17=>f80_p14 (fun n52 n53=>k0 n52 n53) (fun (_ : Unit)=>k0 0 9) (.inl (n12,n13,n16,n17))) (fun n54 n55 n56 n57 n58 n59 n60 n61 n62 n63 n64=>f80_p14 (fun n65 n66=>k0 n65 n66) (fun (_ : Unit)=>k0 0 9) (.inr (n12,n13,n54,n55,n56,n57,n58,n59,n60,n61,n62,n63,n64)))))))
structure f80 (n1 n2 : Int) (n3 n4 : Int) (n5 n6 : Int) (n7 n8 : Int) (n9 n10 : Int) (n11 n12 n13 : Int) (k0 : Int→Int→Prop) : Prop where
  run : f80_d n1 n2 n3 n4 n5 n6 n7 n8 n9 n10 n11 n12 n13 k0
def f80_p14L : Told:=fun s K=>match s with
  | ⟨tm,hp⟩=>bif isSig (sigOf tm hp) [0,2,2,0,0,0,0,0,0,100116,0,0,0,0,0,0,0,0,0,0,0,0,0,0,0,0,0,0,0,7,20,2,20,2] then (getS [.skip 1,.v (.one (.int .i64)),.v (.one (.int .i64)),.skip 6,.v (.clo 116 [] [.ptr 0 0 0,.ptr 1 0 0]),.skip 19] [.box [.int .i64],.box [.int .i64]] tm hp fun (xx : (Unit×(Int×(Int×(Unit×((Unit×(Unit×(Unit×Unit)))×(Unit×Unit))))))) (yy : ((Int×Unit)×((Int×Unit)×Unit)))=>f80_p14 (fun n0_0 n0_1=>K .ret ⟨mkS 29 [(6,I n0_0),(7,I n0_1)],[]⟩) (fun (_ : Unit)=>K (.exit 0) ⟨mkS 29 [],[]⟩) (.inl (xx.2.1,xx.2.2.1,yy.1.1,yy.2.1.1))) else (getS [.skip 1,.v (.one (.int .i64)),.v (.one (.int .i64)),.skip 6,.v (.clo 117 [] [.ptr 0 0 0]),.skip 19] [.box [.int .i64,.int .i64,.int .i64,.int .i64,.int .i64,.int .i64,.int .i64,.int .i64,.int .i64,.int .i64,.int .i64]] tm hp fun (xx : (Unit×(Int×(Int×(Unit×((Unit×(Unit×Unit))×(Unit×Unit))))))) (yy : ((Int×(Int×(Int×(Int×(Int×(Int×(Int×(Int×(Int×(Int×(Int×Unit)))))))))))×Unit))=>f80_p14 (fun n0_2 n0_3=>K .ret ⟨mkS 29 [(6,I n0_2),(7,I n0_3)],[]⟩) (fun (_ : Unit)=>K (.exit 0) ⟨mkS 29 [],[]⟩) (.inr (xx.2.1,xx.2.2.1,yy.1.1,yy.1.2.1,yy.1.2.2.1,yy.1.2.2.2.1,yy.1.2.2.2.2.1,yy.1.2.2.2.2.2.1,yy.1.2.2.2.2.2.2.1,yy.1.2.2.2.2.2.2.2.1,yy.1.2.2.2.2.2.2.2.2.1,yy.1.2.2.2.2.2.2.2.2.2.1,yy.1.2.2.2.2.2.2.2.2.2.2.1)))
def f80_tab : List (Nat×Told):=[(14,f80_p14L)]
def f80_call : FuncId→List TV→List Entry→(TV→List Entry→Prop)→Prop:=addCall 117 f117_G (addCall 116 f116_G (addCall 100 f100_G (addCall 99 f99_G (addCall 30 f30_G (noCalls)))))
def f80_C : Ctx:=mkC [(14,[(0,[1,2,9]),(2,[6,7]),(3,[])])] [] [] [] [] false 0 true (lookL f80_tab) f80_call
def f80_p14_mk (x : (Int×Int×Int×Int) ⊕ (Int×Int×Int×Int×Int×Int×Int×Int×Int×Int×Int×Int×Int)) : St:=match x with
  | (.inl x)=>⟨mkS 29 [(1,I x.1),(2,I x.2.1),(9,.w (.one (.clo 116 [] [.ptr 0 0 0,.ptr 1 0 0])))],[.box [.p (pI x.2.2.1)],.box [.p (pI x.2.2.2)]]⟩
  | (.inr x)=>⟨mkS 29 [(1,I x.1),(2,I x.2.1),(9,.w (.one (.clo 117 [] [.ptr 0 0 0])))],[.box [.p (pI x.2.2.1),.p (pI x.2.2.2.1),.p (pI x.2.2.2.2.1),.p (pI x.2.2.2.2.2.1),.p (pI x.2.2.2.2.2.2.1),.p (pI x.2.2.2.2.2.2.2.1),.p (pI x.2.2.2.2.2.2.2.2.1),.p (pI x.2.2.2.2.2.2.2.2.2.1),.p (pI x.2.2.2.2.2.2.2.2.2.2.1),.p (pI x.2.2.2.2.2.2.2.2.2.2.2.1),.p (pI x.2.2.2.2.2.2.2.2.2.2.2.2)]]⟩
theorem f80_p14e0 (n_23 n_24 : Int) (n_25 n_26 : Int) (N : St→Prop) (K : TExit→St→Prop) : (f80_p14b0 n_23 n_24 n_25 n_26 (fun z0 z1 z2 z3=>N (f80_p14_mk (.inl (z0,z1,z2,z3)))) (fun z0 z1 z2 z3 z4 z5 z6 z7 z8 z9 z10 z11 z12=>N (f80_p14_mk (.inr (z0,z1,z2,z3,z4,z5,z6,z7,z8,z9,z10,z11,z12)))) (fun n0_27 n0_28=>K .ret ⟨mkS 29 [(6,I n0_27),(7,I n0_28)],[]⟩) (fun (_ : Unit)=>K (.exit 0) ⟨mkS 29 [],[]⟩)) = execT f80_C (bd Tryz.f80 0) (f80_p14_mk (.inl (n_23,n_24,n_25,n_26))) (loopK N (normK f80_C 14) fun e s=>K e (normOut f80_C 14 e s)):=by kernel_rfl
theorem f80_p14e1 (n_29 n_30 : Int) (n_31 n_32 : Int) (n_33 n_34 : Int) (n_35 n_36 : Int) (n_37 n_38 : Int) (n_39 n_40 n_41 : Int) (N : St→Prop) (K : TExit→St→Prop) : (f80_p14b1 n_29 n_30 n_31 n_32 n_33 n_34 n_35 n_36 n_37 n_38 n_39 n_40 n_41 (fun z0 z1 z2 z3=>N (f80_p14_mk (.inl (z0,z1,z2,z3)))) (fun z0 z1 z2 z3 z4 z5 z6 z7 z8 z9 z10 z11 z12=>N (f80_p14_mk (.inr (z0,z1,z2,z3,z4,z5,z6,z7,z8,z9,z10,z11,z12)))) (fun n0_42 n0_43=>K .ret ⟨mkS 29 [(6,I n0_42),(7,I n0_43)],[]⟩) (fun (_ : Unit)=>K (.exit 0) ⟨mkS 29 [],[]⟩)) = execT f80_C (bd Tryz.f80 0) (f80_p14_mk (.inr (n_29,n_30,n_31,n_32,n_33,n_34,n_35,n_36,n_37,n_38,n_39,n_40,n_41))) (loopK N (normK f80_C 14) fun e s=>K e (normOut f80_C 14 e s)):=by kernel_rfl
set_option maxHeartbeats 4000000 in
theorem f80_p14_ok : LoopOk f80_C (bd Tryz.f80 0):=by
  refine LoopOk.of f80_p14L (by kernel_rfl) fun σ K h=>?_
  have hk : loopKey (bd Tryz.f80 0) = 14:=by kernel_rfl
  rw [hk] at h ⊢
  generalize hs : normK f80_C 14 σ = s at h
  obtain ⟨tm,hp⟩:=s
  unfold f80_p14L at h
  dsimp only at h
  cases hb0 : isSig (sigOf tm hp) [0,2,2,0,0,0,0,0,0,100116,0,0,0,0,0,0,0,0,0,0,0,0,0,0,0,0,0,0,0,7,20,2,20,2] with
  | true =>
    rw [hb0] at h
    clear hb0
    simp only [cond_true] at h
    obtain ⟨xx,yy,rfl,rfl,h⟩:=getS_elim h
    refine iter_of (f80_p14_mk) (fun x N h=>?_) rounds _ σ (hs.trans (by kernel_rfl)) (LoopP.run h)
    rcases x with x | x
    · obtain ⟨y0,y1,y2,y3⟩:=x
      rw [← f80_p14e0 y0 y1 y2 y3 N K]
      exact h
    · obtain ⟨y0,y1,y2,y3,y4,y5,y6,y7,y8,y9,y10,y11,y12⟩:=x
      rw [← f80_p14e1 y0 y1 y2 y3 y4 y5 y6 y7 y8 y9 y10 y11 y12 N K]
      exact h
  | false =>
  rw [hb0] at h
  simp only [cond_false] at h
  clear hb0
  obtain ⟨xx,yy,rfl,rfl,h⟩:=getS_elim h
  refine iter_of (f80_p14_mk) (fun x N h=>?_) rounds _ σ (hs.trans (by kernel_rfl)) (LoopP.run h)
  rcases x with x | x
  · obtain ⟨y0,y1,y2,y3⟩:=x
    rw [← f80_p14e0 y0 y1 y2 y3 N K]
    exact h
  · obtain ⟨y0,y1,y2,y3,y4,y5,y6,y7,y8,y9,y10,y11,y12⟩:=x
    rw [← f80_p14e1 y0 y1 y2 y3 y4 y5 y6 y7 y8 y9 y10 y11 y12 N K]
    exact h
def f80_G0 : List TV→List Entry→(TV→List Entry→Prop)→Prop:=fun tm hp K=>getS [.v (.pagg [.int .i64,.int .i64,.int .i64,.int .i64,.int .i64,.int .i64,.int .i64,.int .i64,.int .i64,.int .i64,.int .i64]),.v (.one (.int .i64)),.v (.one (.int .i64))] [] tm hp fun (xx : ((Int×(Int×(Int×(Int×(Int×(Int×(Int×(Int×(Int×(Int×(Int×Unit)))))))))))×(Int×(Int×Unit)))) (yy : Unit)=>f80 xx.1.1 xx.1.2.1 xx.1.2.2.1 xx.1.2.2.2.1 xx.1.2.2.2.2.1 xx.1.2.2.2.2.2.1 xx.1.2.2.2.2.2.2.1 xx.1.2.2.2.2.2.2.2.1 xx.1.2.2.2.2.2.2.2.2.1 xx.1.2.2.2.2.2.2.2.2.2.1 xx.1.2.2.2.2.2.2.2.2.2.2.1 xx.2.1 xx.2.2.1 (fun n0_4 n0_5=>K (.tup [.one (.p (pI n0_4)),.one (.p (pI n0_5))]) [])
theorem f80_eq (n_44 n_45 : Int) (n_46 n_47 : Int) (n_48 n_49 : Int) (n_50 n_51 : Int) (n_52 n_53 : Int) (n_54 n_55 n_56 : Int) (K : TV→List Entry→Prop) : (f80_d n_44 n_45 n_46 n_47 n_48 n_49 n_50 n_51 n_52 n_53 n_54 n_55 n_56 (fun n0_4 n0_5=>K (.tup [.one (.p (pI n0_4)),.one (.p (pI n0_5))]) [])) = funcT f80_C Tryz.f80 [.w (.pagg [pI n_44,pI n_45,pI n_46,pI n_47,pI n_48,pI n_49,pI n_50,pI n_51,pI n_52,pI n_53,pI n_54]),I n_55,I n_56] [] K:=by kernel_rfl
set_option maxHeartbeats 4000000 in
theorem f80_ok0 : FnOk Tryz.prog glob 80 f80_G0:=by
  refine FnOk.of_text (C:=f80_C) tab_ok.ok (Known.add f117_G_ok (Known.add f116_G_ok (Known.add f100_G_ok (Known.add f99_G_ok (Known.add f30_G_ok (Known.none)))))) follows_ok (fn:=Tryz.f80) (by kernel_rfl) (by kernel_rfl) (by kernel_rfl) (fun c hc=>?_) fun tm hp K h=>?_
  · have e : c = bodyOf Tryz.f80:=Option.some.inj (hc.symm.trans (by kernel_rfl))
    subst e
    exact ⟨LoopsOk.of [bd Tryz.f80 0] (by kernel_rfl) ⟨f80_p14_ok,trivial⟩,TailsOk.of (tab:=f80_tab) rfl [] (by kernel_rfl) trivial⟩
  · unfold f80_G0 at h
    obtain ⟨xx,yy,rfl,rfl,h⟩:=getS_elim h
    have e:=(f80_eq xx.1.1 xx.1.2.1 xx.1.2.2.1 xx.1.2.2.2.1 xx.1.2.2.2.2.1 xx.1.2.2.2.2.2.1 xx.1.2.2.2.2.2.2.1 xx.1.2.2.2.2.2.2.2.1 xx.1.2.2.2.2.2.2.2.2.1 xx.1.2.2.2.2.2.2.2.2.2.1 xx.1.2.2.2.2.2.2.2.2.2.2.1 xx.2.1 xx.2.2.1 K).trans (show _ = funcT f80_C Tryz.f80 (mkR _ xx) (mkE _ yy) K by kernel_rfl)
    rw [← e]
    exact h.run
abbrev f80_G:=f80_G0
theorem f80_G_ok : FnOk Tryz.prog glob 80 f80_G:=f80_ok0
def f35_d (n1 n2 : Int) (n3 n4 : Int) (n5 n6 : Int) (n7 n8 : Int) (n9 n10 : Int) (n11 n12 : Int) (k0 : Int→Int→Prop) : Prop:=f80 n1 n2 n3 n4 n5 n6 n7 n8 n9 n10 n11 n12 1 (fun n13 n14=>k0 n13 n14)
structure f35 (n1 n2 : Int) (n3 n4 : Int) (n5 n6 : Int) (n7 n8 : Int) (n9 n10 : Int) (n11 n12 : Int) (k0 : Int→Int→Prop) : Prop where
  run : f35_d n1 n2 n3 n4 n5 n6 n7 n8 n9 n10 n11 n12 k0
def f35_tab : List (Nat×Told):=[]
def f35_call : FuncId→List TV→List Entry→(TV→List Entry→Prop)→Prop:=addCall 80 f80_G (noCalls)
def f35_C : Ctx:=mkC [] [] [] [] [] false 0 true (lookL f35_tab) f35_call
def f35_G0 : List TV→List Entry→(TV→List Entry→Prop)→Prop:=fun tm hp K=>getS [.v (.pagg [.int .i64,.int .i64,.int .i64,.int .i64,.int .i64,.int .i64,.int .i64,.int .i64,.int .i64,.int .i64,.int .i64]),.v (.one (.int .i64))] [] tm hp fun (xx : ((Int×(Int×(Int×(Int×(Int×(Int×(Int×(Int×(Int×(Int×(Int×Unit)))))))))))×(Int×Unit))) (yy : Unit)=>f35 xx.1.1 xx.1.2.1 xx.1.2.2.1 xx.1.2.2.2.1 xx.1.2.2.2.2.1 xx.1.2.2.2.2.2.1 xx.1.2.2.2.2.2.2.1 xx.1.2.2.2.2.2.2.2.1 xx.1.2.2.2.2.2.2.2.2.1 xx.1.2.2.2.2.2.2.2.2.2.1 xx.1.2.2.2.2.2.2.2.2.2.2.1 xx.2.1 (fun n0_0 n0_1=>K (.tup [.one (.p (pI n0_0)),.one (.p (pI n0_1))]) [])
theorem f35_eq (n_2 n_3 : Int) (n_4 n_5 : Int) (n_6 n_7 : Int) (n_8 n_9 : Int) (n_10 n_11 : Int) (n_12 n_13 : Int) (K : TV→List Entry→Prop) : (f35_d n_2 n_3 n_4 n_5 n_6 n_7 n_8 n_9 n_10 n_11 n_12 n_13 (fun n0_0 n0_1=>K (.tup [.one (.p (pI n0_0)),.one (.p (pI n0_1))]) [])) = funcT f35_C Tryz.f35 [.w (.pagg [pI n_2,pI n_3,pI n_4,pI n_5,pI n_6,pI n_7,pI n_8,pI n_9,pI n_10,pI n_11,pI n_12]),I n_13] [] K:=by kernel_rfl
set_option maxHeartbeats 4000000 in
theorem f35_ok0 : FnOk Tryz.prog glob 35 f35_G0:=by
  refine FnOk.of_text (C:=f35_C) tab_ok.ok (Known.add f80_G_ok (Known.none)) follows_ok (fn:=Tryz.f35) (by kernel_rfl) (by kernel_rfl) (by kernel_rfl) (fun c hc=>?_) fun tm hp K h=>?_
  · have e : c = bodyOf Tryz.f35:=Option.some.inj (hc.symm.trans (by kernel_rfl))
    subst e
    exact ⟨LoopsOk.of [] (by kernel_rfl) trivial,TailsOk.of (tab:=f35_tab) rfl [] (by kernel_rfl) trivial⟩
  · unfold f35_G0 at h
    obtain ⟨xx,yy,rfl,rfl,h⟩:=getS_elim h
    have e:=(f35_eq xx.1.1 xx.1.2.1 xx.1.2.2.1 xx.1.2.2.2.1 xx.1.2.2.2.2.1 xx.1.2.2.2.2.2.1 xx.1.2.2.2.2.2.2.1 xx.1.2.2.2.2.2.2.2.1 xx.1.2.2.2.2.2.2.2.2.1 xx.1.2.2.2.2.2.2.2.2.2.1 xx.1.2.2.2.2.2.2.2.2.2.2.1 xx.2.1 K).trans (show _ = funcT f35_C Tryz.f35 (mkR _ xx) (mkE _ yy) K by kernel_rfl)
    rw [← e]
    exact h.run
abbrev f35_G:=f35_G0
theorem f35_G_ok : FnOk Tryz.prog glob 35 f35_G:=f35_ok0
def f81_p13 (n38 n39 : Int) (i40 n41 : Nat) (n42 n43 : Int) (n44 n45 : Int) (n46 n47 : Int) (n48 n49 : Int) (n50 n51 : Int) (n52 n53 : Int) (es54 : LL) (n55 n56 n57 : Int) (k0 : Nat→Nat→Int→(LL)→Int→Int→Int→Prop) : Prop:=f38 n43 n44 n45 n46 n47 n48 n49 n50 n51 n52 n53 n42 n55 n56 n57 (fun b58=>bB b58 ((i40 + n41)≤es54.length∧(n41 + 1) * 8≤2 ^ 46∧(n41 + 1)≤2 ^ 46∧f101 n55 n56 n57 (fun n59 n60 n61=>k0 0 (n41 + 1) (w64 (n42 + 1)) ((List.take n41 (List.drop i40 es54)) ++ [[pI n42]]) n59 n60 n61)) (f101 n55 n56 n57 (fun n62 n63 n64=>k0 i40 n41 (w64 (n42 + 1)) es54 n62 n63 n64)))
def f81_p8b0 (n18 n19 : Int) (i20 n21 : Nat) (n22 n23 : Int) (n24 n25 : Int) (n26 n27 : Int) (n28 n29 : Int) (n30 n31 : Int) (n32 n33 : Int) (es34 : LL) (n35 n36 n37 : Int) (N0 : Nat→Nat→Int→(LL)→Int→Int→Int→Prop) (k0 : Nat→Nat→(LL)→Prop) : Prop:=bB (decide (n22≤n18)) (bB (decide ((n21 : Int) < n19)) (f81_p13 n18 n19 i20 n21 n22 n23 n24 n25 n26 n27 n28 n29 n30 n31 n32 n33 es34 n35 n36 n37 (fun i65 n66 n67 es68 n69 n70 n71=>N0 i65 n66 n67 es68 n69 n70 n71)) (k0 i20 n21 es34)) (k0 i20 n21 es34)
def f81_p8 (n18 n19 : Int) (n23 n24 : Int) (n25 n26 : Int) (n27 n28 : Int) (n29 n30 : Int) (n31 n32 n33 : Int) (k0 : Nat→Nat→(LL)→Prop) : Nat×Nat×Int×(LL)×Int×Int×Int→Prop:=LoopP fun x N=>f81_p8b0 n18 n19 x.1 x.2.1 x.2.2.1 n23 n24 n25 n26 n27 n28 n29 n30 n31 n32 n33 x.2.2.2.1 x.2.2.2.2.1 x.2.2.2.2.2.1 x.2.2.2.2.2.2 (fun i20 n21 n22 es34 n35 n36 n37=>N (i20,n21,n22,es34,n35,n36,n37)) k0
def f81_d (n1 n2 : Int) (n3 n4 : Int) (n5 n6 : Int) (n7 n8 : Int) (n9 n10 : Int) (n11 n12 : Int) (n13 n14 : Int) (k0 : (LL)→Bool→Prop) : Prop:=f37 n12 (fun n15 n16 n17=>f81_p8 n13 n14 n1 n2 n3 n4 n5 n6 n7 n8 n9 n10 n11 (fun i72 n73 es74=>k0 (List.take n73 (List.drop i72 es74)) false) (0,0,n12,[],n15,n16,n17))
structure f81 (n1 n2 : Int) (n3 n4 : Int) (n5 n6 : Int) (n7 n8 : Int) (n9 n10 : Int) (n11 n12 : Int) (n13 n14 : Int) (k0 : (LL)→Bool→Prop) : Prop where
  run : f81_d n1 n2 n3 n4 n5 n6 n7 n8 n9 n10 n11 n12 n13 n14 k0
def f81_p13L : Told:=fun s K=>match s with
  | ⟨tm,hp⟩=>getS [.skip 2,.v (.one (.int .i64)),.v (.one (.int .i64)),.v (.one (.ptr 0 0 0)),.skip 4,.v (.one (.ref 1)),.v (.one (.ptr 2 0 0)),.v (.one (.int .i64)),.skip 26] [.box [.int .i64,.int .i64,.int .i64,.int .i64,.int .i64,.int .i64,.int .i64,.int .i64,.int .i64,.int .i64,.int .i64],.vec 1 true,.box [.int .i64,.int .i64,.int .i64]] tm hp fun (xx : (Unit×(Int×(Int×(Unit×(Unit×((Nat×Nat)×(Unit×(Int×(Unit×Unit)))))))))) (yy : ((Int×(Int×(Int×(Int×(Int×(Int×(Int×(Int×(Int×(Int×(Int×Unit)))))))))))×((LL)×((Int×(Int×(Int×Unit)))×Unit))))=>f81_p13 xx.2.1 xx.2.2.1 xx.2.2.2.2.2.1.1 xx.2.2.2.2.2.1.2 xx.2.2.2.2.2.2.2.1 yy.1.1 yy.1.2.1 yy.1.2.2.1 yy.1.2.2.2.1 yy.1.2.2.2.2.1 yy.1.2.2.2.2.2.1 yy.1.2.2.2.2.2.2.1 yy.1.2.2.2.2.2.2.2.1 yy.1.2.2.2.2.2.2.2.2.1 yy.1.2.2.2.2.2.2.2.2.2.1 yy.1.2.2.2.2.2.2.2.2.2.2.1 yy.2.1 yy.2.2.1.1 yy.2.2.1.2.1 yy.2.2.1.2.2.1 (fun i0_0 n0_1 n0_2 es0_3 n0_4 n0_5 n0_6=>K .normal ⟨mkS 38 [(2,I xx.2.1),(3,I xx.2.2.1),(4,.w (.one (.ptr 0 0 0))),(9,.w (.one (.ref 1 i0_0 n0_1))),(10,.w (.one (.ptr 2 0 0))),(11,I n0_2)],[.box [.p (pI yy.1.1),.p (pI yy.1.2.1),.p (pI yy.1.2.2.1),.p (pI yy.1.2.2.2.1),.p (pI yy.1.2.2.2.2.1),.p (pI yy.1.2.2.2.2.2.1),.p (pI yy.1.2.2.2.2.2.2.1),.p (pI yy.1.2.2.2.2.2.2.2.1),.p (pI yy.1.2.2.2.2.2.2.2.2.1),.p (pI yy.1.2.2.2.2.2.2.2.2.2.1),.p (pI yy.1.2.2.2.2.2.2.2.2.2.2.1)],.vec 1 es0_3 true,.box [.p (pI n0_4),.p (pI n0_5),.p (pI n0_6)]]⟩)
def f81_p8L : Told:=fun s K=>match s with
  | ⟨tm,hp⟩=>getS [.skip 2,.v (.one (.int .i64)),.v (.one (.int .i64)),.v (.one (.ptr 0 0 0)),.skip 4,.v (.one (.ref 1)),.v (.one (.ptr 2 0 0)),.v (.one (.int .i64)),.skip 26] [.box [.int .i64,.int .i64,.int .i64,.int .i64,.int .i64,.int .i64,.int .i64,.int .i64,.int .i64,.int .i64,.int .i64],.vec 1 true,.box [.int .i64,.int .i64,.int .i64]] tm hp fun (xx : (Unit×(Int×(Int×(Unit×(Unit×((Nat×Nat)×(Unit×(Int×(Unit×Unit)))))))))) (yy : ((Int×(Int×(Int×(Int×(Int×(Int×(Int×(Int×(Int×(Int×(Int×Unit)))))))))))×((LL)×((Int×(Int×(Int×Unit)))×Unit))))=>f81_p8 xx.2.1 xx.2.2.1 yy.1.1 yy.1.2.1 yy.1.2.2.1 yy.1.2.2.2.1 yy.1.2.2.2.2.1 yy.1.2.2.2.2.2.1 yy.1.2.2.2.2.2.2.1 yy.1.2.2.2.2.2.2.2.1 yy.1.2.2.2.2.2.2.2.2.1 yy.1.2.2.2.2.2.2.2.2.2.1 yy.1.2.2.2.2.2.2.2.2.2.2.1 (fun i0_7 n0_8 es0_9=>K (.exit 0) ⟨mkS 38 [(9,.w (.one (.ref 0 i0_7 n0_8)))],[.vec 1 es0_9 true]⟩) (xx.2.2.2.2.2.1.1,xx.2.2.2.2.2.1.2,xx.2.2.2.2.2.2.2.1,yy.2.1,yy.2.2.1.1,yy.2.2.1.2.1,yy.2.2.1.2.2.1)
def f81_tab : List (Nat×Told):=[(13,f81_p13L),(8,f81_p8L)]
def f81_call : FuncId→List TV→List Entry→(TV→List Entry→Prop)→Prop:=addCall 101 f101_G (addCall 38 f38_G (addCall 37 f37_G (noCalls)))
def f81_C : Ctx:=mkC [(13,[(0,[2,3,4,9,10,11]),(1,[2,3,4,9,10,11]),(2,[8]),(3,[9])]),(8,[(0,[2,3,4,9,10,11]),(2,[8]),(3,[9])])] [] [] [] [] false 0 true (lookL f81_tab) f81_call
theorem f81_p13e0 (n_12 n_13 : Int) (i_14 n_15 : Nat) (n_16 n_17 : Int) (n_18 n_19 : Int) (n_20 n_21 : Int) (n_22 n_23 : Int) (n_24 n_25 : Int) (n_26 n_27 : Int) (es_28 : LL) (n_29 n_30 n_31 : Int) (K : TExit→St→Prop) : (f81_p13 n_12 n_13 i_14 n_15 n_16 n_17 n_18 n_19 n_20 n_21 n_22 n_23 n_24 n_25 n_26 n_27 es_28 n_29 n_30 n_31 (fun i0_32 n0_33 n0_34 es0_35 n0_36 n0_37 n0_38=>K .normal ⟨mkS 38 [(2,I n_12),(3,I n_13),(4,.w (.one (.ptr 0 0 0))),(9,.w (.one (.ref 1 i0_32 n0_33))),(10,.w (.one (.ptr 2 0 0))),(11,I n0_34)],[.box [.p (pI n_17),.p (pI n_18),.p (pI n_19),.p (pI n_20),.p (pI n_21),.p (pI n_22),.p (pI n_23),.p (pI n_24),.p (pI n_25),.p (pI n_26),.p (pI n_27)],.vec 1 es0_35 true,.box [.p (pI n0_36),.p (pI n0_37),.p (pI n0_38)]]⟩)) = execT f81_C (nthC (tails (bodyOf Tryz.f81)) 5) ⟨mkS 38 [(2,I n_12),(3,I n_13),(4,.w (.one (.ptr 0 0 0))),(9,.w (.one (.ref 1 i_14 n_15))),(10,.w (.one (.ptr 2 0 0))),(11,I n_16)],[.box [.p (pI n_17),.p (pI n_18),.p (pI n_19),.p (pI n_20),.p (pI n_21),.p (pI n_22),.p (pI n_23),.p (pI n_24),.p (pI n_25),.p (pI n_26),.p (pI n_27)],.vec 1 es_28 true,.box [.p (pI n_29),.p (pI n_30),.p (pI n_31)]]⟩ (fun e s=>K e (normOut f81_C 13 e s)):=by kernel_rfl
def f81_p8_mk (n18 n19 : Int) (n23 n24 : Int) (n25 n26 : Int) (n27 n28 : Int) (n29 n30 : Int) (n31 n32 n33 : Int) (x : Nat×Nat×Int×(LL)×Int×Int×Int) : St:=⟨mkS 38 [(2,I n18),(3,I n19),(4,.w (.one (.ptr 0 0 0))),(9,.w (.one (.ref 1 x.1 x.2.1))),(10,.w (.one (.ptr 2 0 0))),(11,I x.2.2.1)],[.box [.p (pI n23),.p (pI n24),.p (pI n25),.p (pI n26),.p (pI n27),.p (pI n28),.p (pI n29),.p (pI n30),.p (pI n31),.p (pI n32),.p (pI n33)],.vec 1 x.2.2.2.1 true,.box [.p (pI x.2.2.2.2.1),.p (pI x.2.2.2.2.2.1),.p (pI x.2.2.2.2.2.2)]]⟩
theorem f81_p8e0 (n_59 n_60 : Int) (i_61 n_62 : Nat) (n_63 n_64 : Int) (n_65 n_66 : Int) (n_67 n_68 : Int) (n_69 n_70 : Int) (n_71 n_72 : Int) (n_73 n_74 : Int) (es_75 : LL) (n_76 n_77 n_78 : Int) (N : St→Prop) (K : TExit→St→Prop) : (f81_p8b0 n_59 n_60 i_61 n_62 n_63 n_64 n_65 n_66 n_67 n_68 n_69 n_70 n_71 n_72 n_73 n_74 es_75 n_76 n_77 n_78 (fun z2 z3 z4 z16 z17 z18 z19=>N (f81_p8_mk n_59 n_60 n_64 n_65 n_66 n_67 n_68 n_69 n_70 n_71 n_72 n_73 n_74 (z2,z3,z4,z16,z17,z18,z19))) (fun i0_79 n0_80 es0_81=>K (.exit 0) ⟨mkS 38 [(9,.w (.one (.ref 0 i0_79 n0_80)))],[.vec 1 es0_81 true]⟩)) = execT f81_C (bd Tryz.f81 0) (f81_p8_mk n_59 n_60 n_64 n_65 n_66 n_67 n_68 n_69 n_70 n_71 n_72 n_73 n_74 (i_61,n_62,n_63,es_75,n_76,n_77,n_78)) (loopK N (normK f81_C 8) fun e s=>K e (normOut f81_C 8 e s)):=by kernel_rfl
set_option maxHeartbeats 4000000 in
theorem f81_p13_ok : TailOk f81_C (nthC (tails (bodyOf Tryz.f81)) 5):=by
  refine TailOk.of f81_p13L (by kernel_rfl) fun σ K h=>?_
  have hk : joinKey (nthC (tails (bodyOf Tryz.f81)) 5) = 13:=by kernel_rfl
  rw [hk] at h ⊢
  generalize hs : normK f81_C 13 σ = s at h
  obtain ⟨tm,hp⟩:=s
  unfold f81_p13L at h
  dsimp only at h
  obtain ⟨xx,yy,rfl,rfl,h⟩:=getS_elim h
  have q : normK f81_C 13 σ = (⟨mkS 38 [(2,I xx.2.1),(3,I xx.2.2.1),(4,.w (.one (.ptr 0 0 0))),(9,.w (.one (.ref 1 xx.2.2.2.2.2.1.1 xx.2.2.2.2.2.1.2))),(10,.w (.one (.ptr 2 0 0))),(11,I xx.2.2.2.2.2.2.2.1)],[.box [.p (pI yy.1.1),.p (pI yy.1.2.1),.p (pI yy.1.2.2.1),.p (pI yy.1.2.2.2.1),.p (pI yy.1.2.2.2.2.1),.p (pI yy.1.2.2.2.2.2.1),.p (pI yy.1.2.2.2.2.2.2.1),.p (pI yy.1.2.2.2.2.2.2.2.1),.p (pI yy.1.2.2.2.2.2.2.2.2.1),.p (pI yy.1.2.2.2.2.2.2.2.2.2.1),.p (pI yy.1.2.2.2.2.2.2.2.2.2.2.1)],.vec 1 yy.2.1 true,.box [.p (pI yy.2.2.1.1),.p (pI yy.2.2.1.2.1),.p (pI yy.2.2.1.2.2.1)]]⟩ : St):=hs.trans (by kernel_rfl)
  rw [← hs,q,← f81_p13e0 xx.2.1 xx.2.2.1 xx.2.2.2.2.2.1.1 xx.2.2.2.2.2.1.2 xx.2.2.2.2.2.2.2.1 yy.1.1 yy.1.2.1 yy.1.2.2.1 yy.1.2.2.2.1 yy.1.2.2.2.2.1 yy.1.2.2.2.2.2.1 yy.1.2.2.2.2.2.2.1 yy.1.2.2.2.2.2.2.2.1 yy.1.2.2.2.2.2.2.2.2.1 yy.1.2.2.2.2.2.2.2.2.2.1 yy.1.2.2.2.2.2.2.2.2.2.2.1 yy.2.1 yy.2.2.1.1 yy.2.2.1.2.1 yy.2.2.1.2.2.1 K]
  exact h
set_option maxHeartbeats 4000000 in
theorem f81_p8_ok : LoopOk f81_C (bd Tryz.f81 0):=by
  refine LoopOk.of f81_p8L (by kernel_rfl) fun σ K h=>?_
  have hk : loopKey (bd Tryz.f81 0) = 8:=by kernel_rfl
  rw [hk] at h ⊢
  generalize hs : normK f81_C 8 σ = s at h
  obtain ⟨tm,hp⟩:=s
  unfold f81_p8L at h
  dsimp only at h
  obtain ⟨xx,yy,rfl,rfl,h⟩:=getS_elim h
  refine iter_of (f81_p8_mk xx.2.1 xx.2.2.1 yy.1.1 yy.1.2.1 yy.1.2.2.1 yy.1.2.2.2.1 yy.1.2.2.2.2.1 yy.1.2.2.2.2.2.1 yy.1.2.2.2.2.2.2.1 yy.1.2.2.2.2.2.2.2.1 yy.1.2.2.2.2.2.2.2.2.1 yy.1.2.2.2.2.2.2.2.2.2.1 yy.1.2.2.2.2.2.2.2.2.2.2.1) (fun x N h=>?_) rounds _ σ (hs.trans (by kernel_rfl)) (LoopP.run h)
  obtain ⟨y0,y1,y2,y3,y4,y5,y6⟩:=x
  rw [← f81_p8e0 xx.2.1 xx.2.2.1 y0 y1 y2 yy.1.1 yy.1.2.1 yy.1.2.2.1 yy.1.2.2.2.1 yy.1.2.2.2.2.1 yy.1.2.2.2.2.2.1 yy.1.2.2.2.2.2.2.1 yy.1.2.2.2.2.2.2.2.1 yy.1.2.2.2.2.2.2.2.2.1 yy.1.2.2.2.2.2.2.2.2.2.1 yy.1.2.2.2.2.2.2.2.2.2.2.1 y3 y4 y5 y6 N K]
  exact h
def f81_G0 : List TV→List Entry→(TV→List Entry→Prop)→Prop:=fun tm hp K=>getS [.v (.pagg [.int .i64,.int .i64,.int .i64,.int .i64,.int .i64,.int .i64,.int .i64,.int .i64,.int .i64,.int .i64,.int .i64]),.v (.one (.int .i64)),.v (.one (.int .i64)),.v (.one (.int .i64))] [] tm hp fun (xx : ((Int×(Int×(Int×(Int×(Int×(Int×(Int×(Int×(Int×(Int×(Int×Unit)))))))))))×(Int×(Int×(Int×Unit))))) (yy : Unit)=>f81 xx.1.1 xx.1.2.1 xx.1.2.2.1 xx.1.2.2.2.1 xx.1.2.2.2.2.1 xx.1.2.2.2.2.2.1 xx.1.2.2.2.2.2.2.1 xx.1.2.2.2.2.2.2.2.1 xx.1.2.2.2.2.2.2.2.2.1 xx.1.2.2.2.2.2.2.2.2.2.1 xx.1.2.2.2.2.2.2.2.2.2.2.1 xx.2.1 xx.2.2.1 xx.2.2.2.1 (fun es0_10 full0_11=>K (.w (.one (.p (.sl 1 es0_10 full0_11)))) [])
theorem f81_eq (n_82 n_83 : Int) (n_84 n_85 : Int) (n_86 n_87 : Int) (n_88 n_89 : Int) (n_90 n_91 : Int) (n_92 n_93 : Int) (n_94 n_95 : Int) (K : TV→List Entry→Prop) : (f81_d n_82 n_83 n_84 n_85 n_86 n_87 n_88 n_89 n_90 n_91 n_92 n_93 n_94 n_95 (fun es0_10 full0_11=>K (.w (.one (.p (.sl 1 es0_10 full0_11)))) [])) = funcT f81_C Tryz.f81 [.w (.pagg [pI n_82,pI n_83,pI n_84,pI n_85,pI n_86,pI n_87,pI n_88,pI n_89,pI n_90,pI n_91,pI n_92]),I n_93,I n_94,I n_95] [] K:=by kernel_rfl
set_option maxHeartbeats 4000000 in
theorem f81_ok0 : FnOk Tryz.prog glob 81 f81_G0:=by
  refine FnOk.of_text (C:=f81_C) tab_ok.ok (Known.add f101_G_ok (Known.add f38_G_ok (Known.add f37_G_ok (Known.none)))) follows_ok (fn:=Tryz.f81) (by kernel_rfl) (by kernel_rfl) (by kernel_rfl) (fun c hc=>?_) fun tm hp K h=>?_
  · have e : c = bodyOf Tryz.f81:=Option.some.inj (hc.symm.trans (by kernel_rfl))
    subst e
    exact ⟨LoopsOk.of [bd Tryz.f81 0] (by kernel_rfl) ⟨f81_p8_ok,trivial⟩,TailsOk.of (tab:=f81_tab) rfl [nthC (tails (bodyOf Tryz.f81)) 5] (by kernel_rfl) ⟨f81_p13_ok,trivial⟩⟩
  · unfold f81_G0 at h
    obtain ⟨xx,yy,rfl,rfl,h⟩:=getS_elim h
    have e:=(f81_eq xx.1.1 xx.1.2.1 xx.1.2.2.1 xx.1.2.2.2.1 xx.1.2.2.2.2.1 xx.1.2.2.2.2.2.1 xx.1.2.2.2.2.2.2.1 xx.1.2.2.2.2.2.2.2.1 xx.1.2.2.2.2.2.2.2.2.1 xx.1.2.2.2.2.2.2.2.2.2.1 xx.1.2.2.2.2.2.2.2.2.2.2.1 xx.2.1 xx.2.2.1 xx.2.2.2.1 K).trans (show _ = funcT f81_C Tryz.f81 (mkR _ xx) (mkE _ yy) K by kernel_rfl)
    rw [← e]
    exact h.run
abbrev f81_G:=f81_G0
theorem f81_G_ok : FnOk Tryz.prog glob 81 f81_G:=f81_ok0
def f36_d (n1 n2 : Int) (n3 n4 : Int) (n5 n6 : Int) (n7 n8 : Int) (n9 n10 : Int) (n11 n12 : Int) (k0 : Int→Prop) : Prop:=f81 n1 n2 n3 n4 n5 n6 n7 n8 n9 n10 n11 n12 73048 1 (fun es13 full14=>bB ((es13.length : Int) == 0) (k0 (-1)) ((0≤(0 : Int)∧(0 : Int) < (es13.length : Int))∧oI .i64 (ext (List.getD es13 0 []) 0 1) fun n15=>k0 n15))
structure f36 (n1 n2 : Int) (n3 n4 : Int) (n5 n6 : Int) (n7 n8 : Int) (n9 n10 : Int) (n11 n12 : Int) (k0 : Int→Prop) : Prop where
  run : f36_d n1 n2 n3 n4 n5 n6 n7 n8 n9 n10 n11 n12 k0
def f36_tab : List (Nat×Told):=[]
def f36_call : FuncId→List TV→List Entry→(TV→List Entry→Prop)→Prop:=addCall 81 f81_G (noCalls)
def f36_C : Ctx:=mkC [] [] [] [] [] false 0 true (lookL f36_tab) f36_call
def f36_G0 : List TV→List Entry→(TV→List Entry→Prop)→Prop:=fun tm hp K=>getS [.v (.pagg [.int .i64,.int .i64,.int .i64,.int .i64,.int .i64,.int .i64,.int .i64,.int .i64,.int .i64,.int .i64,.int .i64]),.v (.one (.int .i64))] [] tm hp fun (xx : ((Int×(Int×(Int×(Int×(Int×(Int×(Int×(Int×(Int×(Int×(Int×Unit)))))))))))×(Int×Unit))) (yy : Unit)=>f36 xx.1.1 xx.1.2.1 xx.1.2.2.1 xx.1.2.2.2.1 xx.1.2.2.2.2.1 xx.1.2.2.2.2.2.1 xx.1.2.2.2.2.2.2.1 xx.1.2.2.2.2.2.2.2.1 xx.1.2.2.2.2.2.2.2.2.1 xx.1.2.2.2.2.2.2.2.2.2.1 xx.1.2.2.2.2.2.2.2.2.2.2.1 xx.2.1 (fun n0_0=>K (I n0_0) [])
theorem f36_eq (n_1 n_2 : Int) (n_3 n_4 : Int) (n_5 n_6 : Int) (n_7 n_8 : Int) (n_9 n_10 : Int) (n_11 n_12 : Int) (K : TV→List Entry→Prop) : (f36_d n_1 n_2 n_3 n_4 n_5 n_6 n_7 n_8 n_9 n_10 n_11 n_12 (fun n0_0=>K (I n0_0) [])) = funcT f36_C Tryz.f36 [.w (.pagg [pI n_1,pI n_2,pI n_3,pI n_4,pI n_5,pI n_6,pI n_7,pI n_8,pI n_9,pI n_10,pI n_11]),I n_12] [] K:=by kernel_rfl
set_option maxHeartbeats 4000000 in
theorem f36_ok0 : FnOk Tryz.prog glob 36 f36_G0:=by
  refine FnOk.of_text (C:=f36_C) tab_ok.ok (Known.add f81_G_ok (Known.none)) follows_ok (fn:=Tryz.f36) (by kernel_rfl) (by kernel_rfl) (by kernel_rfl) (fun c hc=>?_) fun tm hp K h=>?_
  · have e : c = bodyOf Tryz.f36:=Option.some.inj (hc.symm.trans (by kernel_rfl))
    subst e
    exact ⟨LoopsOk.of [] (by kernel_rfl) trivial,TailsOk.of (tab:=f36_tab) rfl [] (by kernel_rfl) trivial⟩
  · unfold f36_G0 at h
    obtain ⟨xx,yy,rfl,rfl,h⟩:=getS_elim h
    have e:=(f36_eq xx.1.1 xx.1.2.1 xx.1.2.2.1 xx.1.2.2.2.1 xx.1.2.2.2.2.1 xx.1.2.2.2.2.2.1 xx.1.2.2.2.2.2.2.1 xx.1.2.2.2.2.2.2.2.1 xx.1.2.2.2.2.2.2.2.2.1 xx.1.2.2.2.2.2.2.2.2.2.1 xx.1.2.2.2.2.2.2.2.2.2.2.1 xx.2.1 K).trans (show _ = funcT f36_C Tryz.f36 (mkR _ xx) (mkE _ yy) K by kernel_rfl)
    rw [← e]
    exact h.run
abbrev f36_G:=f36_G0
theorem f36_G_ok : FnOk Tryz.prog glob 36 f36_G:=f36_ok0
def f8_p12b0 (es5 : LL) (full6 : Bool) (n7 n8 : Int) (N0 : Int→Prop) (k0 : Int→Prop) (k1 : Unit→Prop) : Prop:=bB (decide (n8 < n7)) ((0≤n8∧n8 < (es5.length : Int))∧cI .i64 (ext (List.getD es5 (Int.toNat n8) []) 0 11) fun n10 r9=>cI .i64 r9 fun n12 r11=>cI .i64 r11 fun n14 r13=>cI .i64 r13 fun n16 r15=>cI .i64 r15 fun n18 r17=>cI .i64 r17 fun n20 r19=>cI .i64 r19 fun n22 r21=>cI .i64 r21 fun n24 r23=>cI .i64 r23 fun n26 r25=>cI .i64 r25 fun n28 r27=>cI .i64 r27 fun n30 r29=>nilC r29 <| f30 n10 n12 n14 n16 n18 n20 n22 n24 n26 n28 n30 (fun n31=>bB (n31 != 0) (k0 n31) (N0 (w64 (n8 + 1))))) (k1 ())
def f8_p12 (es5 : LL) (full6 : Bool) (n7 : Int) (k0 : Int→Prop) (k1 : Unit→Prop) : Int→Prop:=LoopP fun x N=>f8_p12b0 es5 full6 n7 x (fun n8=>N n8) k0 k1
def f8_d (s1 : ByteArray) (es2 : LL) (full3 : Bool) (k0 : Int→Prop) : Prop:=f29 s1 (fun b4=>bB (!b4) (k0 4) (bB (decide ((es2.length : Int) > 32)) (k0 7) (f8_p12 es2 full3 (es2.length : Int) k0 (fun (_ : Unit)=>k0 0) 0)))
structure f8 (s1 : ByteArray) (es2 : LL) (full3 : Bool) (k0 : Int→Prop) : Prop where
  run : f8_d s1 es2 full3 k0
def f8_p12L : Told:=fun s K=>match s with
  | ⟨tm,hp⟩=>getS [.skip 15,.v (.one (.sl 11)),.v (.one (.int .i64)),.v (.one (.int .i64)),.skip 9] [] tm hp fun (xx : (Unit×((LL×Bool)×(Int×(Int×(Unit×Unit)))))) (yy : Unit)=>f8_p12 xx.2.1.1 xx.2.1.2 xx.2.2.1 (fun n0_0=>K .ret ⟨mkS 27 [(2,I n0_0)],[]⟩) (fun (_ : Unit)=>K (.exit 0) ⟨mkS 27 [],[]⟩) xx.2.2.2.1
def f8_tab : List (Nat×Told):=[(12,f8_p12L)]
def f8_call : FuncId→List TV→List Entry→(TV→List Entry→Prop)→Prop:=addCall 30 f30_G (addCall 29 f29_G (noCalls))
def f8_C : Ctx:=mkC [(12,[(0,[15,16,17]),(2,[2]),(3,[])])] [] [] [] [] false 0 true (lookL f8_tab) f8_call
def f8_p12_mk (es5 : LL) (full6 : Bool) (n7 x : Int) : St:=⟨mkS 27 [(15,.w (.one (.p (.sl 11 es5 full6)))),(16,I n7),(17,I x)],[]⟩
theorem f8_p12e0 (es_6 : LL) (full_7 : Bool) (n_8 n_9 : Int) (N : St→Prop) (K : TExit→St→Prop) : (f8_p12b0 es_6 full_7 n_8 n_9 (fun z3=>N (f8_p12_mk es_6 full_7 n_8 z3)) (fun n0_10=>K .ret ⟨mkS 27 [(2,I n0_10)],[]⟩) (fun (_ : Unit)=>K (.exit 0) ⟨mkS 27 [],[]⟩)) = execT f8_C (bd Tryz.f8 0) (f8_p12_mk es_6 full_7 n_8 n_9) (loopK N (normK f8_C 12) fun e s=>K e (normOut f8_C 12 e s)):=by kernel_rfl
set_option maxHeartbeats 4000000 in
theorem f8_p12_ok : LoopOk f8_C (bd Tryz.f8 0):=by
  refine LoopOk.of f8_p12L (by kernel_rfl) fun σ K h=>?_
  have hk : loopKey (bd Tryz.f8 0) = 12:=by kernel_rfl
  rw [hk] at h ⊢
  generalize hs : normK f8_C 12 σ = s at h
  obtain ⟨tm,hp⟩:=s
  unfold f8_p12L at h
  dsimp only at h
  obtain ⟨xx,yy,rfl,rfl,h⟩:=getS_elim h
  refine iter_of (f8_p12_mk xx.2.1.1 xx.2.1.2 xx.2.2.1) (fun x N h=>?_) rounds _ σ (hs.trans (by kernel_rfl)) (LoopP.run h)
  rw [← f8_p12e0 xx.2.1.1 xx.2.1.2 xx.2.2.1 x N K]
  exact h
def f8_G0 : List TV→List Entry→(TV→List Entry→Prop)→Prop:=fun tm hp K=>getS [.v (.pagg [.str,.sl 11])] [] tm hp fun (xx : ((ByteArray×((LL×Bool)×Unit))×Unit)) (yy : Unit)=>f8 xx.1.1 xx.1.2.1.1 xx.1.2.1.2 (fun n0_1=>K (I n0_1) [])
theorem f8_eq (s_11 : ByteArray) (es_12 : LL) (full_13 : Bool) (K : TV→List Entry→Prop) : (f8_d s_11 es_12 full_13 (fun n0_1=>K (I n0_1) [])) = funcT f8_C Tryz.f8 [.w (.pagg [pS s_11,.sl 11 es_12 full_13])] [] K:=by kernel_rfl
set_option maxHeartbeats 4000000 in
theorem f8_ok0 : FnOk Tryz.prog glob 8 f8_G0:=by
  refine FnOk.of_text (C:=f8_C) tab_ok.ok (Known.add f30_G_ok (Known.add f29_G_ok (Known.none))) follows_ok (fn:=Tryz.f8) (by kernel_rfl) (by kernel_rfl) (by kernel_rfl) (fun c hc=>?_) fun tm hp K h=>?_
  · have e : c = bodyOf Tryz.f8:=Option.some.inj (hc.symm.trans (by kernel_rfl))
    subst e
    exact ⟨LoopsOk.of [bd Tryz.f8 0] (by kernel_rfl) ⟨f8_p12_ok,trivial⟩,TailsOk.of (tab:=f8_tab) rfl [] (by kernel_rfl) trivial⟩
  · unfold f8_G0 at h
    obtain ⟨xx,yy,rfl,rfl,h⟩:=getS_elim h
    have e:=(f8_eq xx.1.1 xx.1.2.1.1 xx.1.2.1.2 K).trans (show _ = funcT f8_C Tryz.f8 (mkR _ xx) (mkE _ yy) K by kernel_rfl)
    rw [← e]
    exact h.run
abbrev f8_G:=f8_G0
theorem f8_G_ok : FnOk Tryz.prog glob 8 f8_G:=f8_ok0
def f9_p12b0 (n5 : Int) (s6 : ByteArray) (es7 : LL) (full8 : Bool) (N0 : Int→Prop) (k0 : Int→Prop) (k1 : Unit→Prop) : Prop:=bB (decide (n5 < (es7.length : Int))) ((0≤n5∧n5 < (es7.length : Int))∧cI .i64 (ext (List.getD es7 (Int.toNat n5) []) 0 11) fun n10 r9=>cI .i64 r9 fun n12 r11=>cI .i64 r11 fun n14 r13=>cI .i64 r13 fun n16 r15=>cI .i64 r15 fun n18 r17=>cI .i64 r17 fun n20 r19=>cI .i64 r19 fun n22 r21=>cI .i64 r21 fun n24 r23=>cI .i64 r23 fun n26 r25=>cI .i64 r25 fun n28 r27=>cI .i64 r27 fun n30 r29=>nilC r29 <| f32 n10 n12 n14 n16 n18 n20 n22 n24 n26 n28 n30 (fun n31=>bB (n31 != 0) (k0 n31) (N0 (w64 (n5 + 1))))) (k1 ())
def f9_p12 (s6 : ByteArray) (es7 : LL) (full8 : Bool) (k0 : Int→Prop) (k1 : Unit→Prop) : Int→Prop:=LoopP fun x N=>f9_p12b0 x s6 es7 full8 (fun n5=>N n5) k0 k1
def f9_d (s1 : ByteArray) (es2 : LL) (full3 : Bool) (k0 : Int→Prop) : Prop:=f31 s1 (fun b4=>bB (!b4) (k0 4) (bB (decide ((es2.length : Int) > 32)) (k0 7) (f9_p12 s1 es2 full3 k0 (fun (_ : Unit)=>k0 0) 0)))
structure f9 (s1 : ByteArray) (es2 : LL) (full3 : Bool) (k0 : Int→Prop) : Prop where
  run : f9_d s1 es2 full3 k0
def f9_p12L : Told:=fun s K=>match s with
  | ⟨tm,hp⟩=>getS [.skip 1,.v (.one (.ptr 0 0 0)),.skip 1,.v (.one (.int .i64)),.skip 25] [.box [.str,.sl 11]] tm hp fun (xx : (Unit×(Unit×(Unit×(Int×(Unit×Unit)))))) (yy : ((ByteArray×((LL×Bool)×Unit))×Unit))=>f9_p12 yy.1.1 yy.1.2.1.1 yy.1.2.1.2 (fun n0_0=>K .ret ⟨mkS 29 [(2,I n0_0)],[]⟩) (fun (_ : Unit)=>K (.exit 0) ⟨mkS 29 [],[]⟩) xx.2.2.2.1
def f9_tab : List (Nat×Told):=[(12,f9_p12L)]
def f9_call : FuncId→List TV→List Entry→(TV→List Entry→Prop)→Prop:=addCall 32 f32_G (addCall 31 f31_G (noCalls))
def f9_C : Ctx:=mkC [(12,[(0,[1,3]),(2,[2]),(3,[])])] [] [] [] [] false 0 true (lookL f9_tab) f9_call
def f9_p12_mk (s6 : ByteArray) (es7 : LL) (full8 : Bool) (x : Int) : St:=⟨mkS 29 [(1,.w (.one (.ptr 0 0 0))),(3,I x)],[.box [.p (pS s6),.p (.sl 11 es7 full8)]]⟩
theorem f9_p12e0 (n_6 : Int) (s_7 : ByteArray) (es_8 : LL) (full_9 : Bool) (N : St→Prop) (K : TExit→St→Prop) : (f9_p12b0 n_6 s_7 es_8 full_9 (fun z0=>N (f9_p12_mk s_7 es_8 full_9 z0)) (fun n0_10=>K .ret ⟨mkS 29 [(2,I n0_10)],[]⟩) (fun (_ : Unit)=>K (.exit 0) ⟨mkS 29 [],[]⟩)) = execT f9_C (bd Tryz.f9 0) (f9_p12_mk s_7 es_8 full_9 n_6) (loopK N (normK f9_C 12) fun e s=>K e (normOut f9_C 12 e s)):=by kernel_rfl
set_option maxHeartbeats 4000000 in
theorem f9_p12_ok : LoopOk f9_C (bd Tryz.f9 0):=by
  refine LoopOk.of f9_p12L (by kernel_rfl) fun σ K h=>?_
  have hk : loopKey (bd Tryz.f9 0) = 12:=by kernel_rfl
  rw [hk] at h ⊢
  generalize hs : normK f9_C 12 σ = s at h
  obtain ⟨tm,hp⟩:=s
  unfold f9_p12L at h
  dsimp only at h
  obtain ⟨xx,yy,rfl,rfl,h⟩:=getS_elim h
  refine iter_of (f9_p12_mk yy.1.1 yy.1.2.1.1 yy.1.2.1.2) (fun x N h=>?_) rounds _ σ (hs.trans (by kernel_rfl)) (LoopP.run h)
  rw [← f9_p12e0 x yy.1.1 yy.1.2.1.1 yy.1.2.1.2 N K]
  exact h
def f9_G0 : List TV→List Entry→(TV→List Entry→Prop)→Prop:=fun tm hp K=>getS [.v (.pagg [.str,.sl 11])] [] tm hp fun (xx : ((ByteArray×((LL×Bool)×Unit))×Unit)) (yy : Unit)=>f9 xx.1.1 xx.1.2.1.1 xx.1.2.1.2 (fun n0_1=>K (I n0_1) [])
theorem f9_eq (s_11 : ByteArray) (es_12 : LL) (full_13 : Bool) (K : TV→List Entry→Prop) : (f9_d s_11 es_12 full_13 (fun n0_1=>K (I n0_1) [])) = funcT f9_C Tryz.f9 [.w (.pagg [pS s_11,.sl 11 es_12 full_13])] [] K:=by kernel_rfl
set_option maxHeartbeats 4000000 in
theorem f9_ok0 : FnOk Tryz.prog glob 9 f9_G0:=by
  refine FnOk.of_text (C:=f9_C) tab_ok.ok (Known.add f32_G_ok (Known.add f31_G_ok (Known.none))) follows_ok (fn:=Tryz.f9) (by kernel_rfl) (by kernel_rfl) (by kernel_rfl) (fun c hc=>?_) fun tm hp K h=>?_
  · have e : c = bodyOf Tryz.f9:=Option.some.inj (hc.symm.trans (by kernel_rfl))
    subst e
    exact ⟨LoopsOk.of [bd Tryz.f9 0] (by kernel_rfl) ⟨f9_p12_ok,trivial⟩,TailsOk.of (tab:=f9_tab) rfl [] (by kernel_rfl) trivial⟩
  · unfold f9_G0 at h
    obtain ⟨xx,yy,rfl,rfl,h⟩:=getS_elim h
    have e:=(f9_eq xx.1.1 xx.1.2.1.1 xx.1.2.1.2 K).trans (show _ = funcT f9_C Tryz.f9 (mkR _ xx) (mkE _ yy) K by kernel_rfl)
    rw [← e]
    exact h.run
abbrev f9_G:=f9_G0
theorem f9_G_ok : FnOk Tryz.prog glob 9 f9_G:=f9_ok0
def f78_d (n1 n2 : Int) (n3 n4 : Int) (n5 n6 : Int) (n7 n8 : Int) (n9 n10 : Int) (n11 n12 : Int) (k0 : Bool→Int→Prop) : Prop:=f79 n1 n2 n3 n4 n5 n6 n7 n8 n9 n10 n11 n12 (fun b13=>k0 b13 n12)
structure f78 (n1 n2 : Int) (n3 n4 : Int) (n5 n6 : Int) (n7 n8 : Int) (n9 n10 : Int) (n11 n12 : Int) (k0 : Bool→Int→Prop) : Prop where
  run : f78_d n1 n2 n3 n4 n5 n6 n7 n8 n9 n10 n11 n12 k0
def f78_tab : List (Nat×Told):=[]
def f78_call : FuncId→List TV→List Entry→(TV→List Entry→Prop)→Prop:=addCall 79 f79_G (noCalls)
def f78_C : Ctx:=mkC [] [] [] [] [] false 1 true (lookL f78_tab) f78_call
def f78_G0 : List TV→List Entry→(TV→List Entry→Prop)→Prop:=fun tm hp K=>getS [.v (.pagg [.int .i64,.int .i64,.int .i64,.int .i64,.int .i64,.int .i64,.int .i64,.int .i64,.int .i64,.int .i64,.int .i64]),.v (.one (.ptr 0 0 0))] [.box [.int .i64]] tm hp fun (xx : ((Int×(Int×(Int×(Int×(Int×(Int×(Int×(Int×(Int×(Int×(Int×Unit)))))))))))×(Unit×Unit))) (yy : ((Int×Unit)×Unit))=>f78 xx.1.1 xx.1.2.1 xx.1.2.2.1 xx.1.2.2.2.1 xx.1.2.2.2.2.1 xx.1.2.2.2.2.2.1 xx.1.2.2.2.2.2.2.1 xx.1.2.2.2.2.2.2.2.1 xx.1.2.2.2.2.2.2.2.2.1 xx.1.2.2.2.2.2.2.2.2.2.1 xx.1.2.2.2.2.2.2.2.2.2.2.1 yy.1.1 (fun b0_0 n0_1=>K (B b0_0) [.box [.p (pI n0_1)]])
theorem f78_eq (n_2 n_3 : Int) (n_4 n_5 : Int) (n_6 n_7 : Int) (n_8 n_9 : Int) (n_10 n_11 : Int) (n_12 n_13 : Int) (K : TV→List Entry→Prop) : (f78_d n_2 n_3 n_4 n_5 n_6 n_7 n_8 n_9 n_10 n_11 n_12 n_13 (fun b0_0 n0_1=>K (B b0_0) [.box [.p (pI n0_1)]])) = funcT f78_C Tryz.f78 [.w (.pagg [pI n_2,pI n_3,pI n_4,pI n_5,pI n_6,pI n_7,pI n_8,pI n_9,pI n_10,pI n_11,pI n_12]),.w (.one (.ptr 0 0 0))] [.box [.p (pI n_13)]] K:=by kernel_rfl
set_option maxHeartbeats 4000000 in
theorem f78_ok0 : FnOk Tryz.prog glob 78 f78_G0:=by
  refine FnOk.of_text (C:=f78_C) tab_ok.ok (Known.add f79_G_ok (Known.none)) follows_ok (fn:=Tryz.f78) (by kernel_rfl) (by kernel_rfl) (by kernel_rfl) (fun c hc=>?_) fun tm hp K h=>?_
  · have e : c = bodyOf Tryz.f78:=Option.some.inj (hc.symm.trans (by kernel_rfl))
    subst e
    exact ⟨LoopsOk.of [] (by kernel_rfl) trivial,TailsOk.of (tab:=f78_tab) rfl [] (by kernel_rfl) trivial⟩
  · unfold f78_G0 at h
    obtain ⟨xx,yy,rfl,rfl,h⟩:=getS_elim h
    have e:=(f78_eq xx.1.1 xx.1.2.1 xx.1.2.2.1 xx.1.2.2.2.1 xx.1.2.2.2.2.1 xx.1.2.2.2.2.2.1 xx.1.2.2.2.2.2.2.1 xx.1.2.2.2.2.2.2.2.1 xx.1.2.2.2.2.2.2.2.2.1 xx.1.2.2.2.2.2.2.2.2.2.1 xx.1.2.2.2.2.2.2.2.2.2.2.1 yy.1.1 K).trans (show _ = funcT f78_C Tryz.f78 (mkR _ xx) (mkE _ yy) K by kernel_rfl)
    rw [← e]
    exact h.run
abbrev f78_G:=f78_G0
theorem f78_G_ok : FnOk Tryz.prog glob 78 f78_G:=f78_ok0
def f98_p4b0 (es4 : LL) (full5 : Bool) (n6 n7 n8 : Int) (N0 : Int→Int→Prop) (k0 : Int→Int→Prop) (k1 : Int→Prop) : Prop:=bB (decide (n7 < n6)) ((0≤n7∧n7 < (es4.length : Int))∧cI .i64 (ext (List.getD es4 (Int.toNat n7) []) 0 11) fun n10 r9=>cI .i64 r9 fun n12 r11=>cI .i64 r11 fun n14 r13=>cI .i64 r13 fun n16 r15=>cI .i64 r15 fun n18 r17=>cI .i64 r17 fun n20 r19=>cI .i64 r19 fun n22 r21=>cI .i64 r21 fun n24 r23=>cI .i64 r23 fun n26 r25=>cI .i64 r25 fun n28 r27=>cI .i64 r27 fun n30 r29=>nilC r29 <| f78 n10 n12 n14 n16 n18 n20 n22 n24 n26 n28 n30 n8 (fun b31 n32=>bB b31 (k0 n7 n32) (N0 (w64 (n7 + 1)) n32))) (k1 n8)
def f98_p4 (es4 : LL) (full5 : Bool) (n6 : Int) (k0 : Int→Int→Prop) (k1 : Int→Prop) : Int×Int→Prop:=LoopP fun x N=>f98_p4b0 es4 full5 n6 x.1 x.2 (fun n7 n8=>N (n7,n8)) k0 k1
def f98_d (es1 : LL) (full2 : Bool) (n3 : Int) (k0 : Int→Int→Prop) : Prop:=f98_p4 es1 full2 (es1.length : Int) (fun n33 n34=>k0 n33 n34) (fun n35=>k0 (-1) n35) (0,n3)
structure f98 (es1 : LL) (full2 : Bool) (n3 : Int) (k0 : Int→Int→Prop) : Prop where
  run : f98_d es1 full2 n3 k0
def f98_p4L : Told:=fun s K=>match s with
  | ⟨tm,hp⟩=>getS [.v (.one (.sl 11)),.v (.clo 78 [] [.ptr 0 0 0]),.skip 5,.v (.one (.int .i64)),.v (.one (.int .i64)),.skip 10] [.box [.int .i64]] tm hp fun (xx : ((LL×Bool)×((Unit×(Unit×Unit))×(Unit×(Int×(Int×(Unit×Unit))))))) (yy : ((Int×Unit)×Unit))=>f98_p4 xx.1.1 xx.1.2 xx.2.2.2.1 (fun n0_0 n0_1=>K .ret ⟨mkS 19 [(4,I n0_0)],[.box [.p (pI n0_1)]]⟩) (fun n1_2=>K (.exit 0) ⟨mkS 19 [],[.box [.p (pI n1_2)]]⟩) (xx.2.2.2.2.1,yy.1.1)
def f98_tab : List (Nat×Told):=[(4,f98_p4L)]
def f98_call : FuncId→List TV→List Entry→(TV→List Entry→Prop)→Prop:=addCall 78 f78_G (noCalls)
def f98_C : Ctx:=mkC [(4,[(0,[0,1,7,8]),(2,[4]),(3,[])])] [] [] [] [] false 1 true (lookL f98_tab) f98_call
def f98_p4_mk (es4 : LL) (full5 : Bool) (n6 : Int) (x : Int×Int) : St:=⟨mkS 19 [(0,.w (.one (.p (.sl 11 es4 full5)))),(1,.w (.one (.clo 78 [] [.ptr 0 0 0]))),(7,I n6),(8,I x.1)],[.box [.p (pI x.2)]]⟩
theorem f98_p4e0 (es_10 : LL) (full_11 : Bool) (n_12 n_13 n_14 : Int) (N : St→Prop) (K : TExit→St→Prop) : (f98_p4b0 es_10 full_11 n_12 n_13 n_14 (fun z3 z4=>N (f98_p4_mk es_10 full_11 n_12 (z3,z4))) (fun n0_15 n0_16=>K .ret ⟨mkS 19 [(4,I n0_15)],[.box [.p (pI n0_16)]]⟩) (fun n1_17=>K (.exit 0) ⟨mkS 19 [],[.box [.p (pI n1_17)]]⟩)) = execT f98_C (bd Tryz.f98 0) (f98_p4_mk es_10 full_11 n_12 (n_13,n_14)) (loopK N (normK f98_C 4) fun e s=>K e (normOut f98_C 4 e s)):=by kernel_rfl
set_option maxHeartbeats 4000000 in
theorem f98_p4_ok : LoopOk f98_C (bd Tryz.f98 0):=by
  refine LoopOk.of f98_p4L (by kernel_rfl) fun σ K h=>?_
  have hk : loopKey (bd Tryz.f98 0) = 4:=by kernel_rfl
  rw [hk] at h ⊢
  generalize hs : normK f98_C 4 σ = s at h
  obtain ⟨tm,hp⟩:=s
  unfold f98_p4L at h
  dsimp only at h
  obtain ⟨xx,yy,rfl,rfl,h⟩:=getS_elim h
  refine iter_of (f98_p4_mk xx.1.1 xx.1.2 xx.2.2.2.1) (fun x N h=>?_) rounds _ σ (hs.trans (by kernel_rfl)) (LoopP.run h)
  obtain ⟨y0,y1⟩:=x
  rw [← f98_p4e0 xx.1.1 xx.1.2 xx.2.2.2.1 y0 y1 N K]
  exact h
def f98_G0 : List TV→List Entry→(TV→List Entry→Prop)→Prop:=fun tm hp K=>getS [.v (.one (.sl 11)),.v (.clo 78 [] [.ptr 0 0 0])] [.box [.int .i64]] tm hp fun (xx : ((LL×Bool)×((Unit×(Unit×Unit))×Unit))) (yy : ((Int×Unit)×Unit))=>f98 xx.1.1 xx.1.2 yy.1.1 (fun n0_3 n0_4=>K (I n0_3) [.box [.p (pI n0_4)]])
theorem f98_eq (es_18 : LL) (full_19 : Bool) (n_20 : Int) (K : TV→List Entry→Prop) : (f98_d es_18 full_19 n_20 (fun n0_3 n0_4=>K (I n0_3) [.box [.p (pI n0_4)]])) = funcT f98_C Tryz.f98 [.w (.one (.p (.sl 11 es_18 full_19))),.w (.one (.clo 78 [] [.ptr 0 0 0]))] [.box [.p (pI n_20)]] K:=by kernel_rfl
set_option maxHeartbeats 4000000 in
theorem f98_ok0 : FnOk Tryz.prog glob 98 f98_G0:=by
  refine FnOk.of_text (C:=f98_C) tab_ok.ok (Known.add f78_G_ok (Known.none)) follows_ok (fn:=Tryz.f98) (by kernel_rfl) (by kernel_rfl) (by kernel_rfl) (fun c hc=>?_) fun tm hp K h=>?_
  · have e : c = bodyOf Tryz.f98:=Option.some.inj (hc.symm.trans (by kernel_rfl))
    subst e
    exact ⟨LoopsOk.of [bd Tryz.f98 0] (by kernel_rfl) ⟨f98_p4_ok,trivial⟩,TailsOk.of (tab:=f98_tab) rfl [] (by kernel_rfl) trivial⟩
  · unfold f98_G0 at h
    obtain ⟨xx,yy,rfl,rfl,h⟩:=getS_elim h
    have e:=(f98_eq xx.1.1 xx.1.2 yy.1.1 K).trans (show _ = funcT f98_C Tryz.f98 (mkR _ xx) (mkE _ yy) K by kernel_rfl)
    rw [← e]
    exact h.run
abbrev f98_G:=f98_G0
theorem f98_G_ok : FnOk Tryz.prog glob 98 f98_G:=f98_ok0
def f77_d (es1 : LL) (full2 : Bool) (n3 : Int) (k0 : Bool→Int→Prop) : Prop:=f98 es1 full2 n3 (fun n4 n5=>k0 (decide (n4≥0)) n5)
structure f77 (es1 : LL) (full2 : Bool) (n3 : Int) (k0 : Bool→Int→Prop) : Prop where
  run : f77_d es1 full2 n3 k0
def f77_tab : List (Nat×Told):=[]
def f77_call : FuncId→List TV→List Entry→(TV→List Entry→Prop)→Prop:=addCall 98 f98_G (noCalls)
def f77_C : Ctx:=mkC [] [] [] [] [] false 1 true (lookL f77_tab) f77_call
def f77_G0 : List TV→List Entry→(TV→List Entry→Prop)→Prop:=fun tm hp K=>getS [.v (.one (.sl 11)),.v (.clo 78 [] [.ptr 0 0 0])] [.box [.int .i64]] tm hp fun (xx : ((LL×Bool)×((Unit×(Unit×Unit))×Unit))) (yy : ((Int×Unit)×Unit))=>f77 xx.1.1 xx.1.2 yy.1.1 (fun b0_0 n0_1=>K (B b0_0) [.box [.p (pI n0_1)]])
theorem f77_eq (es_2 : LL) (full_3 : Bool) (n_4 : Int) (K : TV→List Entry→Prop) : (f77_d es_2 full_3 n_4 (fun b0_0 n0_1=>K (B b0_0) [.box [.p (pI n0_1)]])) = funcT f77_C Tryz.f77 [.w (.one (.p (.sl 11 es_2 full_3))),.w (.one (.clo 78 [] [.ptr 0 0 0]))] [.box [.p (pI n_4)]] K:=by kernel_rfl
set_option maxHeartbeats 4000000 in
theorem f77_ok0 : FnOk Tryz.prog glob 77 f77_G0:=by
  refine FnOk.of_text (C:=f77_C) tab_ok.ok (Known.add f98_G_ok (Known.none)) follows_ok (fn:=Tryz.f77) (by kernel_rfl) (by kernel_rfl) (by kernel_rfl) (fun c hc=>?_) fun tm hp K h=>?_
  · have e : c = bodyOf Tryz.f77:=Option.some.inj (hc.symm.trans (by kernel_rfl))
    subst e
    exact ⟨LoopsOk.of [] (by kernel_rfl) trivial,TailsOk.of (tab:=f77_tab) rfl [] (by kernel_rfl) trivial⟩
  · unfold f77_G0 at h
    obtain ⟨xx,yy,rfl,rfl,h⟩:=getS_elim h
    have e:=(f77_eq xx.1.1 xx.1.2 yy.1.1 K).trans (show _ = funcT f77_C Tryz.f77 (mkR _ xx) (mkE _ yy) K by kernel_rfl)
    rw [← e]
    exact h.run
abbrev f77_G:=f77_G0
theorem f77_G_ok : FnOk Tryz.prog glob 77 f77_G:=f77_ok0
def f34_d (s1 : ByteArray) (es2 : LL) (full3 : Bool) (n4 : Int) (k0 : Bool→Prop) : Prop:=f77 es2 full3 n4 (fun b5 n6=>k0 b5)
structure f34 (s1 : ByteArray) (es2 : LL) (full3 : Bool) (n4 : Int) (k0 : Bool→Prop) : Prop where
  run : f34_d s1 es2 full3 n4 k0
def f34_tab : List (Nat×Told):=[]
def f34_call : FuncId→List TV→List Entry→(TV→List Entry→Prop)→Prop:=addCall 77 f77_G (noCalls)
def f34_C : Ctx:=mkC [] [] [] [] [] false 0 true (lookL f34_tab) f34_call
def f34_G0 : List TV→List Entry→(TV→List Entry→Prop)→Prop:=fun tm hp K=>getS [.v (.pagg [.str,.sl 11]),.v (.one (.int .i64))] [] tm hp fun (xx : ((ByteArray×((LL×Bool)×Unit))×(Int×Unit))) (yy : Unit)=>f34 xx.1.1 xx.1.2.1.1 xx.1.2.1.2 xx.2.1 (fun b0_0=>K (B b0_0) [])
theorem f34_eq (s_1 : ByteArray) (es_2 : LL) (full_3 : Bool) (n_4 : Int) (K : TV→List Entry→Prop) : (f34_d s_1 es_2 full_3 n_4 (fun b0_0=>K (B b0_0) [])) = funcT f34_C Tryz.f34 [.w (.pagg [pS s_1,.sl 11 es_2 full_3]),I n_4] [] K:=by kernel_rfl
set_option maxHeartbeats 4000000 in
theorem f34_ok0 : FnOk Tryz.prog glob 34 f34_G0:=by
  refine FnOk.of_text (C:=f34_C) tab_ok.ok (Known.add f77_G_ok (Known.none)) follows_ok (fn:=Tryz.f34) (by kernel_rfl) (by kernel_rfl) (by kernel_rfl) (fun c hc=>?_) fun tm hp K h=>?_
  · have e : c = bodyOf Tryz.f34:=Option.some.inj (hc.symm.trans (by kernel_rfl))
    subst e
    exact ⟨LoopsOk.of [] (by kernel_rfl) trivial,TailsOk.of (tab:=f34_tab) rfl [] (by kernel_rfl) trivial⟩
  · unfold f34_G0 at h
    obtain ⟨xx,yy,rfl,rfl,h⟩:=getS_elim h
    have e:=(f34_eq xx.1.1 xx.1.2.1.1 xx.1.2.1.2 xx.2.1 K).trans (show _ = funcT f34_C Tryz.f34 (mkR _ xx) (mkE _ yy) K by kernel_rfl)
    rw [← e]
    exact h.run
abbrev f34_G:=f34_G0
theorem f34_G_ok : FnOk Tryz.prog glob 34 f34_G:=f34_ok0
def f10_d (s1 : ByteArray) (es2 : LL) (full3 : Bool) (n4 : Int) (k0 : Bool→Int→Prop) : Prop:=f8 s1 es2 full3 (fun n5=>bB (n5 != 0) (k0 false n5) (f33 n4 (fun b6=>bB (!b6) (k0 false 1) (f34 s1 es2 full3 n4 (fun b7=>k0 b7 0)))))
structure f10 (s1 : ByteArray) (es2 : LL) (full3 : Bool) (n4 : Int) (k0 : Bool→Int→Prop) : Prop where
  run : f10_d s1 es2 full3 n4 k0
def f10_tab : List (Nat×Told):=[]
def f10_call : FuncId→List TV→List Entry→(TV→List Entry→Prop)→Prop:=addCall 34 f34_G (addCall 33 f33_G (addCall 8 f8_G (noCalls)))
def f10_C : Ctx:=mkC [] [] [] [] [] false 0 true (lookL f10_tab) f10_call
def f10_G0 : List TV→List Entry→(TV→List Entry→Prop)→Prop:=fun tm hp K=>getS [.v (.pagg [.str,.sl 11]),.v (.one (.int .i64))] [] tm hp fun (xx : ((ByteArray×((LL×Bool)×Unit))×(Int×Unit))) (yy : Unit)=>f10 xx.1.1 xx.1.2.1.1 xx.1.2.1.2 xx.2.1 (fun b0_0 n0_1=>K (.tup [.one (.p (pB b0_0)),.one (.p (pI n0_1))]) [])
theorem f10_eq (s_2 : ByteArray) (es_3 : LL) (full_4 : Bool) (n_5 : Int) (K : TV→List Entry→Prop) : (f10_d s_2 es_3 full_4 n_5 (fun b0_0 n0_1=>K (.tup [.one (.p (pB b0_0)),.one (.p (pI n0_1))]) [])) = funcT f10_C Tryz.f10 [.w (.pagg [pS s_2,.sl 11 es_3 full_4]),I n_5] [] K:=by kernel_rfl
set_option maxHeartbeats 4000000 in
theorem f10_ok0 : FnOk Tryz.prog glob 10 f10_G0:=by
  refine FnOk.of_text (C:=f10_C) tab_ok.ok (Known.add f34_G_ok (Known.add f33_G_ok (Known.add f8_G_ok (Known.none)))) follows_ok (fn:=Tryz.f10) (by kernel_rfl) (by kernel_rfl) (by kernel_rfl) (fun c hc=>?_) fun tm hp K h=>?_
  · have e : c = bodyOf Tryz.f10:=Option.some.inj (hc.symm.trans (by kernel_rfl))
    subst e
    exact ⟨LoopsOk.of [] (by kernel_rfl) trivial,TailsOk.of (tab:=f10_tab) rfl [] (by kernel_rfl) trivial⟩
  · unfold f10_G0 at h
    obtain ⟨xx,yy,rfl,rfl,h⟩:=getS_elim h
    have e:=(f10_eq xx.1.1 xx.1.2.1.1 xx.1.2.1.2 xx.2.1 K).trans (show _ = funcT f10_C Tryz.f10 (mkR _ xx) (mkE _ yy) K by kernel_rfl)
    rw [← e]
    exact h.run
abbrev f10_G:=f10_G0
theorem f10_G_ok : FnOk Tryz.prog glob 10 f10_G:=f10_ok0
def f11_p16b0 (n14 : Int) (i15 n16 : Nat) (n17 : Int) (s18 : ByteArray) (es19 : LL) (full20 : Bool) (es21 : LL) (N0 : Nat→Nat→Int→(LL)→Prop) (k0 : Nat→Nat→(LL)→Prop) : Prop:=bB (decide (n17≤n14)) (f34 s18 es19 full20 n17 (fun b22=>bB b22 ((i15 + n16)≤es21.length∧(n16 + 1) * 8≤2 ^ 46∧(n16 + 1)≤2 ^ 46∧N0 0 (n16 + 1) (w64 (n17 + 1)) ((List.take n16 (List.drop i15 es21)) ++ [[pI n17]])) (N0 i15 n16 (w64 (n17 + 1)) es21))) (k0 i15 n16 es21)
def f11_p16 (n14 : Int) (s18 : ByteArray) (es19 : LL) (full20 : Bool) (k0 : Nat→Nat→(LL)→Prop) : Nat×Nat×Int×(LL)→Prop:=LoopP fun x N=>f11_p16b0 n14 x.1 x.2.1 x.2.2.1 s18 es19 full20 x.2.2.2 (fun i15 n16 n17 es21=>N (i15,n16,n17,es21)) k0
def f11_p13 (n9 n10 : Int) (s11 : ByteArray) (es12 : LL) (full13 : Bool) (k0 : Nat→Nat→Int→(LL)→Prop) : Prop:=f11_p16 n10 s11 es12 full13 (fun i23 n24 es25=>k0 i23 n24 0 es25) (0,0,n9,[])
def f11_d (s1 : ByteArray) (es2 : LL) (full3 : Bool) (n4 n5 : Int) (k0 : (LL)→Bool→Int→Prop) : Prop:=f8 s1 es2 full3 (fun n6=>bB (n6 != 0) (k0 [] true n6) (f33 n4 (fun b7=>bB (!b7) (k0 [] true 1) (f33 n5 (fun b8=>bB (!b8) (k0 [] true 1) (f11_p13 n4 n5 s1 es2 full3 (fun i26 n27 n28 es29=>k0 (List.take n27 (List.drop i26 es29)) false n28)))))))
structure f11 (s1 : ByteArray) (es2 : LL) (full3 : Bool) (n4 n5 : Int) (k0 : (LL)→Bool→Int→Prop) : Prop where
  run : f11_d s1 es2 full3 n4 n5 k0
def f11_p16L : Told:=fun s K=>match s with
  | ⟨tm,hp⟩=>getS [.skip 2,.v (.one (.int .i64)),.v (.one (.ptr 0 0 0)),.skip 5,.v (.one (.ref 1)),.v (.one (.int .i64)),.skip 27] [.box [.str,.sl 11],.vec 1 true] tm hp fun (xx : (Unit×(Int×(Unit×(Unit×((Nat×Nat)×(Int×(Unit×Unit)))))))) (yy : ((ByteArray×((LL×Bool)×Unit))×((LL)×Unit)))=>f11_p16 xx.2.1 yy.1.1 yy.1.2.1.1 yy.1.2.1.2 (fun i0_0 n0_1 es0_2=>K (.exit 0) ⟨mkS 38 [(9,.w (.one (.ref 0 i0_0 n0_1)))],[.vec 1 es0_2 true]⟩) (xx.2.2.2.2.1.1,xx.2.2.2.2.1.2,xx.2.2.2.2.2.1,yy.2.1)
def f11_p13L : Told:=fun s K=>match s with
  | ⟨tm,hp⟩=>getS [.skip 1,.v (.one (.int .i64)),.v (.one (.int .i64)),.v (.one (.ptr 0 0 0)),.skip 34] [.box [.str,.sl 11]] tm hp fun (xx : (Unit×(Int×(Int×(Unit×(Unit×Unit)))))) (yy : ((ByteArray×((LL×Bool)×Unit))×Unit))=>f11_p13 xx.2.1 xx.2.2.1 yy.1.1 yy.1.2.1.1 yy.1.2.1.2 (fun i0_3 n0_4 n0_5 es0_6=>K .ret ⟨mkS 38 [(6,.w (.one (.ref 0 i0_3 n0_4))),(7,I n0_5)],[.vec 1 es0_6 true]⟩)
def f11_tab : List (Nat×Told):=[(16,f11_p16L),(13,f11_p13L)]
def f11_call : FuncId→List TV→List Entry→(TV→List Entry→Prop)→Prop:=addCall 34 f34_G (addCall 33 f33_G (addCall 8 f8_G (noCalls)))
def f11_C : Ctx:=mkC [(16,[(0,[2,3,9,10]),(2,[6,7]),(3,[9])]),(13,[(0,[1,2,3]),(1,[6,7]),(2,[6,7])])] [] [(16,[9])] [] [] false 0 true (lookL f11_tab) f11_call
def f11_p16_mk (n14 : Int) (s18 : ByteArray) (es19 : LL) (full20 : Bool) (x : Nat×Nat×Int×(LL)) : St:=⟨mkS 38 [(2,I n14),(3,.w (.one (.ptr 0 0 0))),(9,.w (.one (.ref 1 x.1 x.2.1))),(10,I x.2.2.1)],[.box [.p (pS s18),.p (.sl 11 es19 full20)],.vec 1 x.2.2.2 true]⟩
theorem f11_p16e0 (n_18 : Int) (i_19 n_20 : Nat) (n_21 : Int) (s_22 : ByteArray) (es_23 : LL) (full_24 : Bool) (es_25 : LL) (N : St→Prop) (K : TExit→St→Prop) : (f11_p16b0 n_18 i_19 n_20 n_21 s_22 es_23 full_24 es_25 (fun z1 z2 z3 z7=>N (f11_p16_mk n_18 s_22 es_23 full_24 (z1,z2,z3,z7))) (fun i0_26 n0_27 es0_28=>K (.exit 0) ⟨mkS 38 [(9,.w (.one (.ref 0 i0_26 n0_27)))],[.vec 1 es0_28 true]⟩)) = execT f11_C (bd Tryz.f11 0) (f11_p16_mk n_18 s_22 es_23 full_24 (i_19,n_20,n_21,es_25)) (loopK N (normK f11_C 16) fun e s=>K e (normOut f11_C 16 e s)):=by kernel_rfl
theorem f11_p13e0 (n_29 n_30 : Int) (s_31 : ByteArray) (es_32 : LL) (full_33 : Bool) (K : TExit→St→Prop) : (f11_p13 n_29 n_30 s_31 es_32 full_33 (fun i0_34 n0_35 n0_36 es0_37=>K .ret ⟨mkS 38 [(6,.w (.one (.ref 0 i0_34 n0_35))),(7,I n0_36)],[.vec 1 es0_37 true]⟩)) = execT f11_C (nthC (tails (bodyOf Tryz.f11)) 5) ⟨mkS 38 [(1,I n_29),(2,I n_30),(3,.w (.one (.ptr 0 0 0)))],[.box [.p (pS s_31),.p (.sl 11 es_32 full_33)]]⟩ (fun e s=>K e (normOut f11_C 13 e s)):=by kernel_rfl
set_option maxHeartbeats 4000000 in
theorem f11_p16_ok : LoopOk f11_C (bd Tryz.f11 0):=by
  refine LoopOk.of f11_p16L (by kernel_rfl) fun σ K h=>?_
  have hk : loopKey (bd Tryz.f11 0) = 16:=by kernel_rfl
  rw [hk] at h ⊢
  generalize hs : normK f11_C 16 σ = s at h
  obtain ⟨tm,hp⟩:=s
  unfold f11_p16L at h
  dsimp only at h
  obtain ⟨xx,yy,rfl,rfl,h⟩:=getS_elim h
  refine iter_of (f11_p16_mk xx.2.1 yy.1.1 yy.1.2.1.1 yy.1.2.1.2) (fun x N h=>?_) rounds _ σ (hs.trans (by kernel_rfl)) (LoopP.run h)
  obtain ⟨y0,y1,y2,y3⟩:=x
  rw [← f11_p16e0 xx.2.1 y0 y1 y2 yy.1.1 yy.1.2.1.1 yy.1.2.1.2 y3 N K]
  exact h
set_option maxHeartbeats 4000000 in
theorem f11_p13_ok : TailOk f11_C (nthC (tails (bodyOf Tryz.f11)) 5):=by
  refine TailOk.of f11_p13L (by kernel_rfl) fun σ K h=>?_
  have hk : joinKey (nthC (tails (bodyOf Tryz.f11)) 5) = 13:=by kernel_rfl
  rw [hk] at h ⊢
  generalize hs : normK f11_C 13 σ = s at h
  obtain ⟨tm,hp⟩:=s
  unfold f11_p13L at h
  dsimp only at h
  obtain ⟨xx,yy,rfl,rfl,h⟩:=getS_elim h
  have q : normK f11_C 13 σ = (⟨mkS 38 [(1,I xx.2.1),(2,I xx.2.2.1),(3,.w (.one (.ptr 0 0 0)))],[.box [.p (pS yy.1.1),.p (.sl 11 yy.1.2.1.1 yy.1.2.1.2)]]⟩ : St):=hs.trans (by kernel_rfl)
  rw [← hs,q,← f11_p13e0 xx.2.1 xx.2.2.1 yy.1.1 yy.1.2.1.1 yy.1.2.1.2 K]
  exact h
def f11_G0 : List TV→List Entry→(TV→List Entry→Prop)→Prop:=fun tm hp K=>getS [.v (.pagg [.str,.sl 11]),.v (.one (.int .i64)),.v (.one (.int .i64))] [] tm hp fun (xx : ((ByteArray×((LL×Bool)×Unit))×(Int×(Int×Unit)))) (yy : Unit)=>f11 xx.1.1 xx.1.2.1.1 xx.1.2.1.2 xx.2.1 xx.2.2.1 (fun es0_7 full0_8 n0_9=>K (.tup [.one (.p (.sl 1 es0_7 full0_8)),.one (.p (pI n0_9))]) [])
theorem f11_eq (s_38 : ByteArray) (es_39 : LL) (full_40 : Bool) (n_41 n_42 : Int) (K : TV→List Entry→Prop) : (f11_d s_38 es_39 full_40 n_41 n_42 (fun es0_7 full0_8 n0_9=>K (.tup [.one (.p (.sl 1 es0_7 full0_8)),.one (.p (pI n0_9))]) [])) = funcT f11_C Tryz.f11 [.w (.pagg [pS s_38,.sl 11 es_39 full_40]),I n_41,I n_42] [] K:=by kernel_rfl
set_option maxHeartbeats 4000000 in
theorem f11_ok0 : FnOk Tryz.prog glob 11 f11_G0:=by
  refine FnOk.of_text (C:=f11_C) tab_ok.ok (Known.add f34_G_ok (Known.add f33_G_ok (Known.add f8_G_ok (Known.none)))) follows_ok (fn:=Tryz.f11) (by kernel_rfl) (by kernel_rfl) (by kernel_rfl) (fun c hc=>?_) fun tm hp K h=>?_
  · have e : c = bodyOf Tryz.f11:=Option.some.inj (hc.symm.trans (by kernel_rfl))
    subst e
    exact ⟨LoopsOk.of [bd Tryz.f11 0] (by kernel_rfl) ⟨f11_p16_ok,trivial⟩,TailsOk.of (tab:=f11_tab) rfl [nthC (tails (bodyOf Tryz.f11)) 5] (by kernel_rfl) ⟨f11_p13_ok,trivial⟩⟩
  · unfold f11_G0 at h
    obtain ⟨xx,yy,rfl,rfl,h⟩:=getS_elim h
    have e:=(f11_eq xx.1.1 xx.1.2.1.1 xx.1.2.1.2 xx.2.1 xx.2.2.1 K).trans (show _ = funcT f11_C Tryz.f11 (mkR _ xx) (mkE _ yy) K by kernel_rfl)
    rw [← e]
    exact h.run
abbrev f11_G:=f11_G0
theorem f11_G_ok : FnOk Tryz.prog glob 11 f11_G:=f11_ok0
def f12_p16b0 (n7 n8 : Int) (es9 : LL) (full10 : Bool) (n11 n12 : Int) (N0 : Int→Int→Prop) (k0 : Int→Prop) : Prop:=bB (decide (n12 < n11)) ((0≤n12∧n12 < (es9.length : Int))∧cI .i64 (ext (List.getD es9 (Int.toNat n12) []) 0 11) fun n14 r13=>cI .i64 r13 fun n16 r15=>cI .i64 r15 fun n18 r17=>cI .i64 r17 fun n20 r19=>cI .i64 r19 fun n22 r21=>cI .i64 r21 fun n24 r23=>cI .i64 r23 fun n26 r25=>cI .i64 r25 fun n28 r27=>cI .i64 r27 fun n30 r29=>cI .i64 r29 fun n32 r31=>cI .i64 r31 fun n34 r33=>nilC r33 <| f35 n14 n16 n18 n20 n22 n24 n26 n28 n30 n32 n34 n7 (fun n35 n36=>bB (n36 == 0) (bB (decide (n8 < 0)) (N0 n35 (w64 (n12 + 1))) (bB (decide (n35 < n8)) (N0 n35 (w64 (n12 + 1))) (N0 n8 (w64 (n12 + 1))))) (N0 n8 (w64 (n12 + 1))))) (k0 n8)
def f12_p16 (n7 : Int) (es9 : LL) (full10 : Bool) (n11 : Int) (k0 : Int→Prop) : Int×Int→Prop:=LoopP fun x N=>f12_p16b0 n7 x.1 es9 full10 n11 x.2 (fun n8 n12=>N (n8,n12)) k0
def f12_d (s1 : ByteArray) (es2 : LL) (full3 : Bool) (n4 : Int) (k0 : Int→Int→Prop) : Prop:=f8 s1 es2 full3 (fun n5=>bB (n5 != 0) (k0 0 n5) (f33 n4 (fun b6=>bB (!b6) (k0 0 1) (f12_p16 n4 es2 full3 (es2.length : Int) (fun n37=>bB (decide (n37 < 0)) (k0 0 9) (k0 n37 0)) ((-1),0)))))
structure f12 (s1 : ByteArray) (es2 : LL) (full3 : Bool) (n4 : Int) (k0 : Int→Int→Prop) : Prop where
  run : f12_d s1 es2 full3 n4 k0
def f12_p16L : Told:=fun s K=>match s with
  | ⟨tm,hp⟩=>getS [.skip 1,.v (.one (.int .i64)),.skip 5,.v (.one (.int .i64)),.skip 13,.v (.one (.sl 11)),.v (.one (.int .i64)),.v (.one (.int .i64)),.skip 25] [] tm hp fun (xx : (Unit×(Int×(Unit×(Int×(Unit×((LL×Bool)×(Int×(Int×(Unit×Unit)))))))))) (yy : Unit)=>f12_p16 xx.2.1 xx.2.2.2.2.2.1.1 xx.2.2.2.2.2.1.2 xx.2.2.2.2.2.2.1 (fun n0_0=>K (.exit 0) ⟨mkS 49 [(7,I n0_0)],[]⟩) (xx.2.2.2.1,xx.2.2.2.2.2.2.2.1)
def f12_tab : List (Nat×Told):=[(16,f12_p16L)]
def f12_call : FuncId→List TV→List Entry→(TV→List Entry→Prop)→Prop:=addCall 35 f35_G (addCall 33 f33_G (addCall 8 f8_G (noCalls)))
def f12_C : Ctx:=mkC [(16,[(0,[1,7,21,22,23]),(2,[4,5]),(3,[7])])] [] [] [] [] false 0 true (lookL f12_tab) f12_call
def f12_p16_mk (n7 : Int) (es9 : LL) (full10 : Bool) (n11 : Int) (x : Int×Int) : St:=⟨mkS 49 [(1,I n7),(7,I x.1),(21,.w (.one (.p (.sl 11 es9 full10)))),(22,I n11),(23,I x.2)],[]⟩
theorem f12_p16e0 (n_9 n_10 : Int) (es_11 : LL) (full_12 : Bool) (n_13 n_14 : Int) (N : St→Prop) (K : TExit→St→Prop) : (f12_p16b0 n_9 n_10 es_11 full_12 n_13 n_14 (fun z1 z5=>N (f12_p16_mk n_9 es_11 full_12 n_13 (z1,z5))) (fun n0_15=>K (.exit 0) ⟨mkS 49 [(7,I n0_15)],[]⟩)) = execT f12_C (bd Tryz.f12 0) (f12_p16_mk n_9 es_11 full_12 n_13 (n_10,n_14)) (loopK N (normK f12_C 16) fun e s=>K e (normOut f12_C 16 e s)):=by kernel_rfl
set_option maxHeartbeats 4000000 in
theorem f12_p16_ok : LoopOk f12_C (bd Tryz.f12 0):=by
  refine LoopOk.of f12_p16L (by kernel_rfl) fun σ K h=>?_
  have hk : loopKey (bd Tryz.f12 0) = 16:=by kernel_rfl
  rw [hk] at h ⊢
  generalize hs : normK f12_C 16 σ = s at h
  obtain ⟨tm,hp⟩:=s
  unfold f12_p16L at h
  dsimp only at h
  obtain ⟨xx,yy,rfl,rfl,h⟩:=getS_elim h
  refine iter_of (f12_p16_mk xx.2.1 xx.2.2.2.2.2.1.1 xx.2.2.2.2.2.1.2 xx.2.2.2.2.2.2.1) (fun x N h=>?_) rounds _ σ (hs.trans (by kernel_rfl)) (LoopP.run h)
  obtain ⟨y0,y1⟩:=x
  rw [← f12_p16e0 xx.2.1 y0 xx.2.2.2.2.2.1.1 xx.2.2.2.2.2.1.2 xx.2.2.2.2.2.2.1 y1 N K]
  exact h
def f12_G0 : List TV→List Entry→(TV→List Entry→Prop)→Prop:=fun tm hp K=>getS [.v (.pagg [.str,.sl 11]),.v (.one (.int .i64))] [] tm hp fun (xx : ((ByteArray×((LL×Bool)×Unit))×(Int×Unit))) (yy : Unit)=>f12 xx.1.1 xx.1.2.1.1 xx.1.2.1.2 xx.2.1 (fun n0_1 n0_2=>K (.tup [.one (.p (pI n0_1)),.one (.p (pI n0_2))]) [])
theorem f12_eq (s_16 : ByteArray) (es_17 : LL) (full_18 : Bool) (n_19 : Int) (K : TV→List Entry→Prop) : (f12_d s_16 es_17 full_18 n_19 (fun n0_1 n0_2=>K (.tup [.one (.p (pI n0_1)),.one (.p (pI n0_2))]) [])) = funcT f12_C Tryz.f12 [.w (.pagg [pS s_16,.sl 11 es_17 full_18]),I n_19] [] K:=by kernel_rfl
set_option maxHeartbeats 4000000 in
theorem f12_ok0 : FnOk Tryz.prog glob 12 f12_G0:=by
  refine FnOk.of_text (C:=f12_C) tab_ok.ok (Known.add f35_G_ok (Known.add f33_G_ok (Known.add f8_G_ok (Known.none)))) follows_ok (fn:=Tryz.f12) (by kernel_rfl) (by kernel_rfl) (by kernel_rfl) (fun c hc=>?_) fun tm hp K h=>?_
  · have e : c = bodyOf Tryz.f12:=Option.some.inj (hc.symm.trans (by kernel_rfl))
    subst e
    exact ⟨LoopsOk.of [bd Tryz.f12 0] (by kernel_rfl) ⟨f12_p16_ok,trivial⟩,TailsOk.of (tab:=f12_tab) rfl [] (by kernel_rfl) trivial⟩
  · unfold f12_G0 at h
    obtain ⟨xx,yy,rfl,rfl,h⟩:=getS_elim h
    have e:=(f12_eq xx.1.1 xx.1.2.1.1 xx.1.2.1.2 xx.2.1 K).trans (show _ = funcT f12_C Tryz.f12 (mkR _ xx) (mkE _ yy) K by kernel_rfl)
    rw [← e]
    exact h.run
abbrev f12_G:=f12_G0
theorem f12_G_ok : FnOk Tryz.prog glob 12 f12_G:=f12_ok0
def f13_d (n1 : Int) (k0 : Bool→Prop) : Prop:=bB (decide (n1≥0)) (k0 (decide (n1≤73048))) (k0 false)
structure f13 (n1 : Int) (k0 : Bool→Prop) : Prop where
  run : f13_d n1 k0
def f13_tab : List (Nat×Told):=[]
def f13_call : FuncId→List TV→List Entry→(TV→List Entry→Prop)→Prop:=noCalls
def f13_C : Ctx:=mkC [] [] [] [] [] false 0 true (lookL f13_tab) f13_call
def f13_G0 : List TV→List Entry→(TV→List Entry→Prop)→Prop:=fun tm hp K=>getS [.v (.one (.int .i64))] [] tm hp fun (xx : (Int×Unit)) (yy : Unit)=>f13 xx.1 (fun b0_0=>K (B b0_0) [])
theorem f13_eq (n_1 : Int) (K : TV→List Entry→Prop) : (f13_d n_1 (fun b0_0=>K (B b0_0) [])) = funcT f13_C Tryz.f13 [I n_1] [] K:=by kernel_rfl
set_option maxHeartbeats 4000000 in
theorem f13_ok0 : FnOk Tryz.prog glob 13 f13_G0:=by
  refine FnOk.of_text (C:=f13_C) tab_ok.ok (Known.none) follows_ok (fn:=Tryz.f13) (by kernel_rfl) (by kernel_rfl) (by kernel_rfl) (fun c hc=>?_) fun tm hp K h=>?_
  · have e : c = bodyOf Tryz.f13:=Option.some.inj (hc.symm.trans (by kernel_rfl))
    subst e
    exact ⟨LoopsOk.of [] (by kernel_rfl) trivial,TailsOk.of (tab:=f13_tab) rfl [] (by kernel_rfl) trivial⟩
  · unfold f13_G0 at h
    obtain ⟨xx,yy,rfl,rfl,h⟩:=getS_elim h
    have e:=(f13_eq xx.1 K).trans (show _ = funcT f13_C Tryz.f13 (mkR _ xx) (mkE _ yy) K by kernel_rfl)
    rw [← e]
    exact h.run
abbrev f13_G:=f13_G0
theorem f13_G_ok : FnOk Tryz.prog glob 13 f13_G:=f13_ok0
def f14_p6b0 (n5 n6 n7 : Int) (s8 : ByteArray) (es9 : LL) (full10 : Bool) (N0 : Int→Int→Prop) (k0 : Int→Prop) : Prop:=bB (decide (n7 < (es9.length : Int))) ((0≤n7∧n7 < (es9.length : Int))∧cI .i64 (ext (List.getD es9 (Int.toNat n7) []) 0 11) fun n12 r11=>cI .i64 r11 fun n14 r13=>cI .i64 r13 fun n16 r15=>cI .i64 r15 fun n18 r17=>cI .i64 r17 fun n20 r19=>cI .i64 r19 fun n22 r21=>cI .i64 r21 fun n24 r23=>cI .i64 r23 fun n26 r25=>cI .i64 r25 fun n28 r27=>cI .i64 r27 fun n30 r29=>cI .i64 r29 fun n32 r31=>nilC r31 <| f36 n12 n14 n16 n18 n20 n22 n24 n26 n28 n30 n32 n5 (fun n33=>bB (decide (n33≥0)) (bB (decide (n6 < 0)) (N0 n33 (w64 (n7 + 1))) (bB (decide (n33 < n6)) (N0 n33 (w64 (n7 + 1))) (N0 n6 (w64 (n7 + 1))))) (N0 n6 (w64 (n7 + 1))))) (k0 n6)
def f14_p6 (n5 : Int) (s8 : ByteArray) (es9 : LL) (full10 : Bool) (k0 : Int→Prop) : Int×Int→Prop:=LoopP fun x N=>f14_p6b0 n5 x.1 x.2 s8 es9 full10 (fun n6 n7=>N (n6,n7)) k0
def f14_d (s1 : ByteArray) (es2 : LL) (full3 : Bool) (n4 : Int) (k0 : Int→Prop) : Prop:=f14_p6 n4 s1 es2 full3 k0 ((-1),0)
structure f14 (s1 : ByteArray) (es2 : LL) (full3 : Bool) (n4 : Int) (k0 : Int→Prop) : Prop where
  run : f14_d s1 es2 full3 n4 k0
def f14_p6L : Told:=fun s K=>match s with
  | ⟨tm,hp⟩=>getS [.skip 1,.v (.one (.int .i64)),.v (.one (.ptr 0 0 0)),.skip 2,.v (.one (.int .i64)),.v (.one (.int .i64)),.skip 28] [.box [.str,.sl 11]] tm hp fun (xx : (Unit×(Int×(Unit×(Unit×(Int×(Int×(Unit×Unit)))))))) (yy : ((ByteArray×((LL×Bool)×Unit))×Unit))=>f14_p6 xx.2.1 yy.1.1 yy.1.2.1.1 yy.1.2.1.2 (fun n0_0=>K (.exit 0) ⟨mkS 35 [(5,I n0_0)],[]⟩) (xx.2.2.2.2.1,xx.2.2.2.2.2.1)
def f14_tab : List (Nat×Told):=[(6,f14_p6L)]
def f14_call : FuncId→List TV→List Entry→(TV→List Entry→Prop)→Prop:=addCall 36 f36_G (noCalls)
def f14_C : Ctx:=mkC [(6,[(0,[1,2,5,6]),(2,[4]),(3,[5])])] [] [] [] [] false 0 true (lookL f14_tab) f14_call
def f14_p6_mk (n5 : Int) (s8 : ByteArray) (es9 : LL) (full10 : Bool) (x : Int×Int) : St:=⟨mkS 35 [(1,I n5),(2,.w (.one (.ptr 0 0 0))),(5,I x.1),(6,I x.2)],[.box [.p (pS s8),.p (.sl 11 es9 full10)]]⟩
theorem f14_p6e0 (n_8 n_9 n_10 : Int) (s_11 : ByteArray) (es_12 : LL) (full_13 : Bool) (N : St→Prop) (K : TExit→St→Prop) : (f14_p6b0 n_8 n_9 n_10 s_11 es_12 full_13 (fun z1 z2=>N (f14_p6_mk n_8 s_11 es_12 full_13 (z1,z2))) (fun n0_14=>K (.exit 0) ⟨mkS 35 [(5,I n0_14)],[]⟩)) = execT f14_C (bd Tryz.f14 0) (f14_p6_mk n_8 s_11 es_12 full_13 (n_9,n_10)) (loopK N (normK f14_C 6) fun e s=>K e (normOut f14_C 6 e s)):=by kernel_rfl
set_option maxHeartbeats 4000000 in
theorem f14_p6_ok : LoopOk f14_C (bd Tryz.f14 0):=by
  refine LoopOk.of f14_p6L (by kernel_rfl) fun σ K h=>?_
  have hk : loopKey (bd Tryz.f14 0) = 6:=by kernel_rfl
  rw [hk] at h ⊢
  generalize hs : normK f14_C 6 σ = s at h
  obtain ⟨tm,hp⟩:=s
  unfold f14_p6L at h
  dsimp only at h
  obtain ⟨xx,yy,rfl,rfl,h⟩:=getS_elim h
  refine iter_of (f14_p6_mk xx.2.1 yy.1.1 yy.1.2.1.1 yy.1.2.1.2) (fun x N h=>?_) rounds _ σ (hs.trans (by kernel_rfl)) (LoopP.run h)
  obtain ⟨y0,y1⟩:=x
  rw [← f14_p6e0 xx.2.1 y0 y1 yy.1.1 yy.1.2.1.1 yy.1.2.1.2 N K]
  exact h
def f14_G0 : List TV→List Entry→(TV→List Entry→Prop)→Prop:=fun tm hp K=>getS [.v (.pagg [.str,.sl 11]),.v (.one (.int .i64))] [] tm hp fun (xx : ((ByteArray×((LL×Bool)×Unit))×(Int×Unit))) (yy : Unit)=>f14 xx.1.1 xx.1.2.1.1 xx.1.2.1.2 xx.2.1 (fun n0_1=>K (I n0_1) [])
theorem f14_eq (s_15 : ByteArray) (es_16 : LL) (full_17 : Bool) (n_18 : Int) (K : TV→List Entry→Prop) : (f14_d s_15 es_16 full_17 n_18 (fun n0_1=>K (I n0_1) [])) = funcT f14_C Tryz.f14 [.w (.pagg [pS s_15,.sl 11 es_16 full_17]),I n_18] [] K:=by kernel_rfl
set_option maxHeartbeats 4000000 in
theorem f14_ok0 : FnOk Tryz.prog glob 14 f14_G0:=by
  refine FnOk.of_text (C:=f14_C) tab_ok.ok (Known.add f36_G_ok (Known.none)) follows_ok (fn:=Tryz.f14) (by kernel_rfl) (by kernel_rfl) (by kernel_rfl) (fun c hc=>?_) fun tm hp K h=>?_
  · have e : c = bodyOf Tryz.f14:=Option.some.inj (hc.symm.trans (by kernel_rfl))
    subst e
    exact ⟨LoopsOk.of [bd Tryz.f14 0] (by kernel_rfl) ⟨f14_p6_ok,trivial⟩,TailsOk.of (tab:=f14_tab) rfl [] (by kernel_rfl) trivial⟩
  · unfold f14_G0 at h
    obtain ⟨xx,yy,rfl,rfl,h⟩:=getS_elim h
    have e:=(f14_eq xx.1.1 xx.1.2.1.1 xx.1.2.1.2 xx.2.1 K).trans (show _ = funcT f14_C Tryz.f14 (mkR _ xx) (mkE _ yy) K by kernel_rfl)
    rw [← e]
    exact h.run
abbrev f14_G:=f14_G0
theorem f14_G_ok : FnOk Tryz.prog glob 14 f14_G:=f14_ok0
end
end Go.Eng.N
