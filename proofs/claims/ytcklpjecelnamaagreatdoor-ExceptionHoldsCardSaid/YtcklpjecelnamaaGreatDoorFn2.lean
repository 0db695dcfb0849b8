/- What the functions that the law reaches compute, by the engine; written by program. -/
import Derived.Test.YtcklpjecelnamaaGreatDoorFn1
set_option linter.unusedVariables false
set_option maxRecDepth 100000
open Go Go.Eng Go.Proofs
namespace Go.Eng.N
noncomputable section
def f15_p6b0 (n8 n9 : Int) (s10 : ByteArray) (es11 : LL) (full12 : Bool) (n13 n14 n15 : Int) (N0 : Int→Prop) (k0 : Bool→Prop) (k1 : Unit→Prop) : Prop:=bB (decide (n9 < (es11.length : Int))) ((0≤n9∧n9 < (es11.length : Int))∧cI .i64 (ext (List.getD es11 (Int.toNat n9) []) 0 11) fun n17 r16=>cI .i64 r16 fun n19 r18=>cI .i64 r18 fun n21 r20=>cI .i64 r20 fun n23 r22=>cI .i64 r22 fun n25 r24=>cI .i64 r24 fun n27 r26=>cI .i64 r26 fun n29 r28=>cI .i64 r28 fun n31 r30=>cI .i64 r30 fun n33 r32=>cI .i64 r32 fun n35 r34=>cI .i64 r34 fun n37 r36=>nilC r36 <| f38 n17 n19 n21 n23 n25 n27 n29 n31 n33 n35 n37 n8 n13 n14 n15 (fun b38=>bB b38 (k0 true) (N0 (w64 (n9 + 1))))) (k1 ())
def f15_p6 (n8 : Int) (s10 : ByteArray) (es11 : LL) (full12 : Bool) (n13 n14 n15 : Int) (k0 : Bool→Prop) (k1 : Unit→Prop) : Int→Prop:=LoopP fun x N=>f15_p6b0 n8 x s10 es11 full12 n13 n14 n15 (fun n9=>N n9) k0 k1
def f15_d (s1 : ByteArray) (es2 : LL) (full3 : Bool) (n4 : Int) (k0 : Bool→Prop) : Prop:=f37 n4 (fun n5 n6 n7=>f15_p6 n4 s1 es2 full3 n5 n6 n7 k0 (fun (_ : Unit)=>k0 false) 0)
structure f15 (s1 : ByteArray) (es2 : LL) (full3 : Bool) (n4 : Int) (k0 : Bool→Prop) : Prop where
  run : f15_d s1 es2 full3 n4 k0
def f15_p6L : Told:=fun s K=>match s with
  | ⟨tm,hp⟩=>getS [.skip 1,.v (.one (.int .i64)),.v (.one (.ptr 0 0 0)),.skip 2,.v (.one (.ptr 1 0 0)),.v (.one (.int .i64)),.skip 17] [.box [.str,.sl 11],.box [.int .i64,.int .i64,.int .i64]] tm hp fun (xx : (Unit×(Int×(Unit×(Unit×(Unit×(Int×(Unit×Unit)))))))) (yy : ((ByteArray×((LL×Bool)×Unit))×((Int×(Int×(Int×Unit)))×Unit)))=>f15_p6 xx.2.1 yy.1.1 yy.1.2.1.1 yy.1.2.1.2 yy.2.1.1 yy.2.1.2.1 yy.2.1.2.2.1 (fun b0_0=>K .ret ⟨mkS 24 [(4,B b0_0)],[]⟩) (fun (_ : Unit)=>K (.exit 0) ⟨mkS 24 [],[]⟩) xx.2.2.2.2.2.1
def f15_tab : List (Nat×Told):=[(6,f15_p6L)]
def f15_call : FuncId→List TV→List Entry→(TV→List Entry→Prop)→Prop:=addCall 38 f38_G (addCall 37 f37_G (noCalls))
def f15_C : Ctx:=mkC [(6,[(0,[1,2,5,6]),(2,[4]),(3,[])])] [] [] [] [] false 0 true (lookL f15_tab) f15_call
def f15_p6_mk (n8 : Int) (s10 : ByteArray) (es11 : LL) (full12 : Bool) (n13 n14 : Int) (n15 x : Int) : St:=⟨mkS 24 [(1,I n8),(2,.w (.one (.ptr 0 0 0))),(5,.w (.one (.ptr 1 0 0))),(6,I x)],[.box [.p (pS s10),.p (.sl 11 es11 full12)],.box [.p (pI n13),.p (pI n14),.p (pI n15)]]⟩
theorem f15_p6e0 (n_10 n_11 : Int) (s_12 : ByteArray) (es_13 : LL) (full_14 : Bool) (n_15 n_16 n_17 : Int) (N : St→Prop) (K : TExit→St→Prop) : (f15_p6b0 n_10 n_11 s_12 es_13 full_14 n_15 n_16 n_17 (fun z1=>N (f15_p6_mk n_10 s_12 es_13 full_14 n_15 n_16 n_17 z1)) (fun b0_18=>K .ret ⟨mkS 24 [(4,B b0_18)],[]⟩) (fun (_ : Unit)=>K (.exit 0) ⟨mkS 24 [],[]⟩)) = execT f15_C (bd Tryz.f15 0) (f15_p6_mk n_10 s_12 es_13 full_14 n_15 n_16 n_17 n_11) (loopK N (normK f15_C 6) fun e s=>K e (normOut f15_C 6 e s)):=by kernel_rfl
set_option maxHeartbeats 4000000 in
theorem f15_p6_ok : LoopOk f15_C (bd Tryz.f15 0):=by
  refine LoopOk.of f15_p6L (by kernel_rfl) fun σ K h=>?_
  have hk : loopKey (bd Tryz.f15 0) = 6:=by kernel_rfl
  rw [hk] at h ⊢
  generalize hs : normK f15_C 6 σ = s at h
  obtain ⟨tm,hp⟩:=s
  unfold f15_p6L at h
  dsimp only at h
  obtain ⟨xx,yy,rfl,rfl,h⟩:=getS_elim h
  refine iter_of (f15_p6_mk xx.2.1 yy.1.1 yy.1.2.1.1 yy.1.2.1.2 yy.2.1.1 yy.2.1.2.1 yy.2.1.2.2.1) (fun x N h=>?_) rounds _ σ (hs.trans (by kernel_rfl)) (LoopP.run h)
  rw [← f15_p6e0 xx.2.1 x yy.1.1 yy.1.2.1.1 yy.1.2.1.2 yy.2.1.1 yy.2.1.2.1 yy.2.1.2.2.1 N K]
  exact h
def f15_G0 : List TV→List Entry→(TV→List Entry→Prop)→Prop:=fun tm hp K=>getS [.v (.pagg [.str,.sl 11]),.v (.one (.int .i64))] [] tm hp fun (xx : ((ByteArray×((LL×Bool)×Unit))×(Int×Unit))) (yy : Unit)=>f15 xx.1.1 xx.1.2.1.1 xx.1.2.1.2 xx.2.1 (fun b0_1=>K (B b0_1) [])
theorem f15_eq (s_19 : ByteArray) (es_20 : LL) (full_21 : Bool) (n_22 : Int) (K : TV→List Entry→Prop) : (f15_d s_19 es_20 full_21 n_22 (fun b0_1=>K (B b0_1) [])) = funcT f15_C Tryz.f15 [.w (.pagg [pS s_19,.sl 11 es_20 full_21]),I n_22] [] K:=by kernel_rfl
set_option maxHeartbeats 4000000 in
theorem f15_ok0 : FnOk Tryz.prog glob 15 f15_G0:=by
  refine FnOk.of_text (C:=f15_C) tab_ok.ok (Known.add f38_G_ok (Known.add f37_G_ok (Known.none))) follows_ok (fn:=Tryz.f15) (by kernel_rfl) (by kernel_rfl) (by kernel_rfl) (fun c hc=>?_) fun tm hp K h=>?_
  · have e : c = bodyOf Tryz.f15:=Option.some.inj (hc.symm.trans (by kernel_rfl))
    subst e
    exact ⟨LoopsOk.of [bd Tryz.f15 0] (by kernel_rfl) ⟨f15_p6_ok,trivial⟩,TailsOk.of (tab:=f15_tab) rfl [] (by kernel_rfl) trivial⟩
  · unfold f15_G0 at h
    obtain ⟨xx,yy,rfl,rfl,h⟩:=getS_elim h
    have e:=(f15_eq xx.1.1 xx.1.2.1.1 xx.1.2.1.2 xx.2.1 K).trans (show _ = funcT f15_C Tryz.f15 (mkR _ xx) (mkE _ yy) K by kernel_rfl)
    rw [← e]
    exact h.run
abbrev f15_G:=f15_G0
theorem f15_G_ok : FnOk Tryz.prog glob 15 f15_G:=f15_ok0
def f16_p8b0 (es5 : LL) (full6 : Bool) (es7 : LL) (full8 : Bool) (n9 : Int) (N0 : Int→Prop) (k0 : Bool→Prop) (k1 : Unit→Prop) : Prop:=bB (decide (n9 < (es5.length : Int))) ((0≤n9∧n9 < (es5.length : Int))∧oI .i64 (ext (List.getD es5 (Int.toNat n9) []) 0 1) fun n10=>(0≤n9∧n9 < (es7.length : Int))∧oI .i64 (ext (List.getD es7 (Int.toNat n9) []) 0 1) fun n11=>bB (n10 != n11) (k0 false) (N0 (w64 (n9 + 1)))) (k1 ())
def f16_p8 (es5 : LL) (full6 : Bool) (es7 : LL) (full8 : Bool) (k0 : Bool→Prop) (k1 : Unit→Prop) : Int→Prop:=LoopP fun x N=>f16_p8b0 es5 full6 es7 full8 x (fun n9=>N n9) k0 k1
def f16_d (es1 : LL) (full2 : Bool) (es3 : LL) (full4 : Bool) (k0 : Bool→Prop) : Prop:=bB ((es1.length : Int) != (es3.length : Int)) (k0 false) (f16_p8 es1 full2 es3 full4 k0 (fun (_ : Unit)=>k0 true) 0)
structure f16 (es1 : LL) (full2 : Bool) (es3 : LL) (full4 : Bool) (k0 : Bool→Prop) : Prop where
  run : f16_d es1 full2 es3 full4 k0
def f16_p8L : Told:=fun s K=>match s with
  | ⟨tm,hp⟩=>getS [.v (.one (.sl 1)),.v (.one (.sl 1)),.skip 3,.v (.one (.int .i64)),.skip 20] [] tm hp fun (xx : ((LL×Bool)×((LL×Bool)×(Unit×(Int×(Unit×Unit)))))) (yy : Unit)=>f16_p8 xx.1.1 xx.1.2 xx.2.1.1 xx.2.1.2 (fun b0_0=>K .ret ⟨mkS 26 [(4,B b0_0)],[]⟩) (fun (_ : Unit)=>K (.exit 0) ⟨mkS 26 [],[]⟩) xx.2.2.2.1
def f16_tab : List (Nat×Told):=[(8,f16_p8L)]
def f16_call : FuncId→List TV→List Entry→(TV→List Entry→Prop)→Prop:=noCalls
def f16_C : Ctx:=mkC [(8,[(0,[0,1,5]),(2,[4]),(3,[])])] [] [] [] [] false 0 true (lookL f16_tab) f16_call
def f16_p8_mk (es5 : LL) (full6 : Bool) (es7 : LL) (full8 : Bool) (x : Int) : St:=⟨mkS 26 [(0,.w (.one (.p (.sl 1 es5 full6)))),(1,.w (.one (.p (.sl 1 es7 full8)))),(5,I x)],[]⟩
theorem f16_p8e0 (es_7 : LL) (full_8 : Bool) (es_9 : LL) (full_10 : Bool) (n_11 : Int) (N : St→Prop) (K : TExit→St→Prop) : (f16_p8b0 es_7 full_8 es_9 full_10 n_11 (fun z4=>N (f16_p8_mk es_7 full_8 es_9 full_10 z4)) (fun b0_12=>K .ret ⟨mkS 26 [(4,B b0_12)],[]⟩) (fun (_ : Unit)=>K (.exit 0) ⟨mkS 26 [],[]⟩)) = execT f16_C (bd Tryz.f16 0) (f16_p8_mk es_7 full_8 es_9 full_10 n_11) (loopK N (normK f16_C 8) fun e s=>K e (normOut f16_C 8 e s)):=by kernel_rfl
set_option maxHeartbeats 4000000 in
theorem f16_p8_ok : LoopOk f16_C (bd Tryz.f16 0):=by
  refine LoopOk.of f16_p8L (by kernel_rfl) fun σ K h=>?_
  have hk : loopKey (bd Tryz.f16 0) = 8:=by kernel_rfl
  rw [hk] at h ⊢
  generalize hs : normK f16_C 8 σ = s at h
  obtain ⟨tm,hp⟩:=s
  unfold f16_p8L at h
  dsimp only at h
  obtain ⟨xx,yy,rfl,rfl,h⟩:=getS_elim h
  refine iter_of (f16_p8_mk xx.1.1 xx.1.2 xx.2.1.1 xx.2.1.2) (fun x N h=>?_) rounds _ σ (hs.trans (by kernel_rfl)) (LoopP.run h)
  rw [← f16_p8e0 xx.1.1 xx.1.2 xx.2.1.1 xx.2.1.2 x N K]
  exact h
def f16_G0 : List TV→List Entry→(TV→List Entry→Prop)→Prop:=fun tm hp K=>getS [.v (.one (.sl 1)),.v (.one (.sl 1))] [] tm hp fun (xx : ((LL×Bool)×((LL×Bool)×Unit))) (yy : Unit)=>f16 xx.1.1 xx.1.2 xx.2.1.1 xx.2.1.2 (fun b0_1=>K (B b0_1) [])
theorem f16_eq (es_13 : LL) (full_14 : Bool) (es_15 : LL) (full_16 : Bool) (K : TV→List Entry→Prop) : (f16_d es_13 full_14 es_15 full_16 (fun b0_1=>K (B b0_1) [])) = funcT f16_C Tryz.f16 [.w (.one (.p (.sl 1 es_13 full_14))),.w (.one (.p (.sl 1 es_15 full_16)))] [] K:=by kernel_rfl
set_option maxHeartbeats 4000000 in
theorem f16_ok0 : FnOk Tryz.prog glob 16 f16_G0:=by
  refine FnOk.of_text (C:=f16_C) tab_ok.ok (Known.none) follows_ok (fn:=Tryz.f16) (by kernel_rfl) (by kernel_rfl) (by kernel_rfl) (fun c hc=>?_) fun tm hp K h=>?_
  · have e : c = bodyOf Tryz.f16:=Option.some.inj (hc.symm.trans (by kernel_rfl))
    subst e
    exact ⟨LoopsOk.of [bd Tryz.f16 0] (by kernel_rfl) ⟨f16_p8_ok,trivial⟩,TailsOk.of (tab:=f16_tab) rfl [] (by kernel_rfl) trivial⟩
  · unfold f16_G0 at h
    obtain ⟨xx,yy,rfl,rfl,h⟩:=getS_elim h
    have e:=(f16_eq xx.1.1 xx.1.2 xx.2.1.1 xx.2.1.2 K).trans (show _ = funcT f16_C Tryz.f16 (mkR _ xx) (mkE _ yy) K by kernel_rfl)
    rw [← e]
    exact h.run
abbrev f16_G:=f16_G0
theorem f16_G_ok : FnOk Tryz.prog glob 16 f16_G:=f16_ok0
def f17_p10b0 (es9 : LL) (full10 : Bool) (es11 : LL) (full12 : Bool) (n13 n14 : Int) (N0 : Int→Int→Prop) (k0 : Int→Prop) : Prop:=bB (decide (n14 < (es9.length : Int))) ((0≤n14∧n14 < (es9.length : Int))∧oL 3 (ext (List.getD es9 (Int.toNat n14) []) 14 1) fun es15 full16=>N0 (w64 (n13 + (es15.length : Int))) (w64 (n14 + 1))) (k0 n13)
def f17_p10 (es9 : LL) (full10 : Bool) (es11 : LL) (full12 : Bool) (k0 : Int→Prop) : Int×Int→Prop:=LoopP fun x N=>f17_p10b0 es9 full10 es11 full12 x.1 x.2 (fun n13 n14=>N (n13,n14)) k0
def f17_p18b0 (es18 : LL) (full19 : Bool) (n20 n21 : Int) (N0 : Int→Int→Prop) (k0 : Int→Prop) : Prop:=bB (decide (n21 < (es18.length : Int))) ((0≤n21∧n21 < (es18.length : Int))∧oL 11 (ext (List.getD es18 (Int.toNat n21) []) 1 1) fun es22 full23=>N0 (w64 (n20 + (es22.length : Int))) (w64 (n21 + 1))) (k0 n20)
def f17_p18 (es18 : LL) (full19 : Bool) (k0 : Int→Prop) : Int×Int→Prop:=LoopP fun x N=>f17_p18b0 es18 full19 x.1 x.2 (fun n20 n21=>N (n20,n21)) k0
def f17_p7 (es5 : LL) (full6 : Bool) (es7 : LL) (full8 : Bool) (k0 : Bool→Prop) : Prop:=f17_p10 es5 full6 es7 full8 (fun n17=>f17_p18 es7 full8 (fun n24=>k0 (decide (n24≤200))) (n17,0)) (0,0)
def f17_d (es1 : LL) (full2 : Bool) (es3 : LL) (full4 : Bool) (k0 : Bool→Prop) : Prop:=bB (decide ((es1.length : Int) > 70)) (k0 false) (bB (decide ((es3.length : Int) > 8)) (k0 false) (f17_p7 es1 full2 es3 full4 k0))
structure f17 (es1 : LL) (full2 : Bool) (es3 : LL) (full4 : Bool) (k0 : Bool→Prop) : Prop where
  run : f17_d es1 full2 es3 full4 k0
def f17_p10L : Told:=fun s K=>match s with
  | ⟨tm,hp⟩=>getS [.v (.one (.sl 15)),.v (.one (.sl 2)),.skip 3,.v (.one (.int .i64)),.v (.one (.int .i64)),.skip 39] [] tm hp fun (xx : ((LL×Bool)×((LL×Bool)×(Unit×(Int×(Int×(Unit×Unit))))))) (yy : Unit)=>f17_p10 xx.1.1 xx.1.2 xx.2.1.1 xx.2.1.2 (fun n0_0=>K (.exit 0) ⟨mkS 46 [(1,.w (.one (.p (.sl 2 xx.2.1.1 xx.2.1.2)))),(5,I n0_0)],[]⟩) (xx.2.2.2.1,xx.2.2.2.2.1)
def f17_p18L : Told:=fun s K=>match s with
  | ⟨tm,hp⟩=>getS [.skip 1,.v (.one (.sl 2)),.skip 3,.v (.one (.int .i64)),.skip 1,.v (.one (.int .i64)),.skip 38] [] tm hp fun (xx : (Unit×((LL×Bool)×(Unit×(Int×(Unit×(Int×(Unit×Unit)))))))) (yy : Unit)=>f17_p18 xx.2.1.1 xx.2.1.2 (fun n0_1=>K (.exit 2) ⟨mkS 46 [(5,I n0_1)],[]⟩) (xx.2.2.2.1,xx.2.2.2.2.2.1)
def f17_p7L : Told:=fun s K=>match s with
  | ⟨tm,hp⟩=>getS [.v (.one (.sl 15)),.v (.one (.sl 2)),.skip 44] [] tm hp fun (xx : ((LL×Bool)×((LL×Bool)×(Unit×Unit)))) (yy : Unit)=>f17_p7 xx.1.1 xx.1.2 xx.2.1.1 xx.2.1.2 (fun b0_2=>K .ret ⟨mkS 46 [(4,B b0_2)],[]⟩)
def f17_tab : List (Nat×Told):=[(10,f17_p10L),(18,f17_p18L),(7,f17_p7L)]
def f17_call : FuncId→List TV→List Entry→(TV→List Entry→Prop)→Prop:=noCalls
def f17_C : Ctx:=mkC [(10,[(0,[0,1,5,6]),(2,[4]),(3,[1,5])]),(18,[(0,[1,5,7]),(2,[4]),(5,[5])]),(7,[(0,[0,1]),(1,[4]),(2,[4])])] [] [] [] [] false 0 true (lookL f17_tab) f17_call
def f17_p10_mk (es9 : LL) (full10 : Bool) (es11 : LL) (full12 : Bool) (x : Int×Int) : St:=⟨mkS 46 [(0,.w (.one (.p (.sl 15 es9 full10)))),(1,.w (.one (.p (.sl 2 es11 full12)))),(5,I x.1),(6,I x.2)],[]⟩
theorem f17_p10e0 (es_10 : LL) (full_11 : Bool) (es_12 : LL) (full_13 : Bool) (n_14 n_15 : Int) (N : St→Prop) (K : TExit→St→Prop) : (f17_p10b0 es_10 full_11 es_12 full_13 n_14 n_15 (fun z4 z5=>N (f17_p10_mk es_10 full_11 es_12 full_13 (z4,z5))) (fun n0_16=>K (.exit 0) ⟨mkS 46 [(1,.w (.one (.p (.sl 2 es_12 full_13)))),(5,I n0_16)],[]⟩)) = execT f17_C (bd Tryz.f17 0) (f17_p10_mk es_10 full_11 es_12 full_13 (n_14,n_15)) (loopK N (normK f17_C 10) fun e s=>K e (normOut f17_C 10 e s)):=by kernel_rfl
def f17_p18_mk (es18 : LL) (full19 : Bool) (x : Int×Int) : St:=⟨mkS 46 [(1,.w (.one (.p (.sl 2 es18 full19)))),(5,I x.1),(7,I x.2)],[]⟩
theorem f17_p18e0 (es_21 : LL) (full_22 : Bool) (n_23 n_24 : Int) (N : St→Prop) (K : TExit→St→Prop) : (f17_p18b0 es_21 full_22 n_23 n_24 (fun z2 z3=>N (f17_p18_mk es_21 full_22 (z2,z3))) (fun n0_25=>K (.exit 2) ⟨mkS 46 [(5,I n0_25)],[]⟩)) = execT f17_C (bd Tryz.f17 1) (f17_p18_mk es_21 full_22 (n_23,n_24)) (loopK N (normK f17_C 18) fun e s=>K e (normOut f17_C 18 e s)):=by kernel_rfl
theorem f17_p7e0 (es_26 : LL) (full_27 : Bool) (es_28 : LL) (full_29 : Bool) (K : TExit→St→Prop) : (f17_p7 es_26 full_27 es_28 full_29 (fun b0_30=>K .ret ⟨mkS 46 [(4,B b0_30)],[]⟩)) = execT f17_C (nthC (tails (bodyOf Tryz.f17)) 1) ⟨mkS 46 [(0,.w (.one (.p (.sl 15 es_26 full_27)))),(1,.w (.one (.p (.sl 2 es_28 full_29))))],[]⟩ (fun e s=>K e (normOut f17_C 7 e s)):=by kernel_rfl
set_option maxHeartbeats 4000000 in
theorem f17_p10_ok : LoopOk f17_C (bd Tryz.f17 0):=by
  refine LoopOk.of f17_p10L (by kernel_rfl) fun σ K h=>?_
  have hk : loopKey (bd Tryz.f17 0) = 10:=by kernel_rfl
  rw [hk] at h ⊢
  generalize hs : normK f17_C 10 σ = s at h
  obtain ⟨tm,hp⟩:=s
  unfold f17_p10L at h
  dsimp only at h
  obtain ⟨xx,yy,rfl,rfl,h⟩:=getS_elim h
  refine iter_of (f17_p10_mk xx.1.1 xx.1.2 xx.2.1.1 xx.2.1.2) (fun x N h=>?_) rounds _ σ (hs.trans (by kernel_rfl)) (LoopP.run h)
  obtain ⟨y0,y1⟩:=x
  rw [← f17_p10e0 xx.1.1 xx.1.2 xx.2.1.1 xx.2.1.2 y0 y1 N K]
  exact h
set_option maxHeartbeats 4000000 in
theorem f17_p18_ok : LoopOk f17_C (bd Tryz.f17 1):=by
  refine LoopOk.of f17_p18L (by kernel_rfl) fun σ K h=>?_
  have hk : loopKey (bd Tryz.f17 1) = 18:=by kernel_rfl
  rw [hk] at h ⊢
  generalize hs : normK f17_C 18 σ = s at h
  obtain ⟨tm,hp⟩:=s
  unfold f17_p18L at h
  dsimp only at h
  obtain ⟨xx,yy,rfl,rfl,h⟩:=getS_elim h
  refine iter_of (f17_p18_mk xx.2.1.1 xx.2.1.2) (fun x N h=>?_) rounds _ σ (hs.trans (by kernel_rfl)) (LoopP.run h)
  obtain ⟨y0,y1⟩:=x
  rw [← f17_p18e0 xx.2.1.1 xx.2.1.2 y0 y1 N K]
  exact h
set_option maxHeartbeats 4000000 in
theorem f17_p7_ok : TailOk f17_C (nthC (tails (bodyOf Tryz.f17)) 1):=by
  refine TailOk.of f17_p7L (by kernel_rfl) fun σ K h=>?_
  have hk : joinKey (nthC (tails (bodyOf Tryz.f17)) 1) = 7:=by kernel_rfl
  rw [hk] at h ⊢
  generalize hs : normK f17_C 7 σ = s at h
  obtain ⟨tm,hp⟩:=s
  unfold f17_p7L at h
  dsimp only at h
  obtain ⟨xx,yy,rfl,rfl,h⟩:=getS_elim h
  have q : normK f17_C 7 σ = (⟨mkS 46 [(0,.w (.one (.p (.sl 15 xx.1.1 xx.1.2)))),(1,.w (.one (.p (.sl 2 xx.2.1.1 xx.2.1.2))))],[]⟩ : St):=hs.trans (by kernel_rfl)
  rw [← hs,q,← f17_p7e0 xx.1.1 xx.1.2 xx.2.1.1 xx.2.1.2 K]
  exact h
def f17_G0 : List TV→List Entry→(TV→List Entry→Prop)→Prop:=fun tm hp K=>getS [.v (.one (.sl 15)),.v (.one (.sl 2))] [] tm hp fun (xx : ((LL×Bool)×((LL×Bool)×Unit))) (yy : Unit)=>f17 xx.1.1 xx.1.2 xx.2.1.1 xx.2.1.2 (fun b0_3=>K (B b0_3) [])
theorem f17_eq (es_31 : LL) (full_32 : Bool) (es_33 : LL) (full_34 : Bool) (K : TV→List Entry→Prop) : (f17_d es_31 full_32 es_33 full_34 (fun b0_3=>K (B b0_3) [])) = funcT f17_C Tryz.f17 [.w (.one (.p (.sl 15 es_31 full_32))),.w (.one (.p (.sl 2 es_33 full_34)))] [] K:=by kernel_rfl
set_option maxHeartbeats 4000000 in
theorem f17_ok0 : FnOk Tryz.prog glob 17 f17_G0:=by
  refine FnOk.of_text (C:=f17_C) tab_ok.ok (Known.none) follows_ok (fn:=Tryz.f17) (by kernel_rfl) (by kernel_rfl) (by kernel_rfl) (fun c hc=>?_) fun tm hp K h=>?_
  · have e : c = bodyOf Tryz.f17:=Option.some.inj (hc.symm.trans (by kernel_rfl))
    subst e
    exact ⟨LoopsOk.of [bd Tryz.f17 0,bd Tryz.f17 1] (by kernel_rfl) ⟨f17_p10_ok,f17_p18_ok,trivial⟩,TailsOk.of (tab:=f17_tab) rfl [nthC (tails (bodyOf Tryz.f17)) 1] (by kernel_rfl) ⟨f17_p7_ok,trivial⟩⟩
  · unfold f17_G0 at h
    obtain ⟨xx,yy,rfl,rfl,h⟩:=getS_elim h
    have e:=(f17_eq xx.1.1 xx.1.2 xx.2.1.1 xx.2.1.2 K).trans (show _ = funcT f17_C Tryz.f17 (mkR _ xx) (mkE _ yy) K by kernel_rfl)
    rw [← e]
    exact h.run
abbrev f17_G:=f17_G0
theorem f17_G_ok : FnOk Tryz.prog glob 17 f17_G:=f17_ok0
def f39_p6b0 (n3 : Int) (es4 : LL) (full5 : Bool) (n6 n7 : Int) (N0 : Int→Prop) (k0 : Int→Prop) (k1 : Unit→Prop) : Prop:=bB (decide (n7 < n6)) ((0≤n7∧n7 < (es4.length : Int))∧oI .i64 (ext (List.getD es4 (Int.toNat n7) []) 0 1) fun n8=>bB (n8 != n3) (k0 n8) (N0 (w64 (n7 + 1)))) (k1 ())
def f39_p6 (n3 : Int) (es4 : LL) (full5 : Bool) (n6 : Int) (k0 : Int→Prop) (k1 : Unit→Prop) : Int→Prop:=LoopP fun x N=>f39_p6b0 n3 es4 full5 n6 x (fun n7=>N n7) k0 k1
def f39_d (es1 : LL) (full2 : Bool) (k0 : Int→Prop) : Prop:=f39_p6 0 es1 full2 (es1.length : Int) k0 (fun (_ : Unit)=>k0 0) 0
structure f39 (es1 : LL) (full2 : Bool) (k0 : Int→Prop) : Prop where
  run : f39_d es1 full2 k0
def f39_p6L : Told:=fun s K=>match s with
  | ⟨tm,hp⟩=>getS [.skip 3,.v (.one (.int .i64)),.skip 2,.v (.one (.sl 1)),.v (.one (.int .i64)),.v (.one (.int .i64)),.skip 9] [] tm hp fun (xx : (Unit×(Int×(Unit×((LL×Bool)×(Int×(Int×(Unit×Unit)))))))) (yy : Unit)=>f39_p6 xx.2.1 xx.2.2.2.1.1 xx.2.2.2.1.2 xx.2.2.2.2.1 (fun n0_0=>K .ret ⟨mkS 18 [(2,I n0_0)],[]⟩) (fun (_ : Unit)=>K (.exit 0) ⟨mkS 18 [(3,I xx.2.1)],[]⟩) xx.2.2.2.2.2.1
def f39_tab : List (Nat×Told):=[(6,f39_p6L)]
def f39_call : FuncId→List TV→List Entry→(TV→List Entry→Prop)→Prop:=noCalls
def f39_C : Ctx:=mkC [(6,[(0,[3,6,7,8]),(2,[2]),(3,[3])])] [] [] [] [] false 0 true (lookL f39_tab) f39_call
def f39_p6_mk (n3 : Int) (es4 : LL) (full5 : Bool) (n6 x : Int) : St:=⟨mkS 18 [(3,I n3),(6,.w (.one (.p (.sl 1 es4 full5)))),(7,I n6),(8,I x)],[]⟩
theorem f39_p6e0 (n_7 : Int) (es_8 : LL) (full_9 : Bool) (n_10 n_11 : Int) (N : St→Prop) (K : TExit→St→Prop) : (f39_p6b0 n_7 es_8 full_9 n_10 n_11 (fun z4=>N (f39_p6_mk n_7 es_8 full_9 n_10 z4)) (fun n0_12=>K .ret ⟨mkS 18 [(2,I n0_12)],[]⟩) (fun (_ : Unit)=>K (.exit 0) ⟨mkS 18 [(3,I n_7)],[]⟩)) = execT f39_C (bd Tryz.f39 0) (f39_p6_mk n_7 es_8 full_9 n_10 n_11) (loopK N (normK f39_C 6) fun e s=>K e (normOut f39_C 6 e s)):=by kernel_rfl
set_option maxHeartbeats 4000000 in
theorem f39_p6_ok : LoopOk f39_C (bd Tryz.f39 0):=by
  refine LoopOk.of f39_p6L (by kernel_rfl) fun σ K h=>?_
  have hk : loopKey (bd Tryz.f39 0) = 6:=by kernel_rfl
  rw [hk] at h ⊢
  generalize hs : normK f39_C 6 σ = s at h
  obtain ⟨tm,hp⟩:=s
  unfold f39_p6L at h
  dsimp only at h
  obtain ⟨xx,yy,rfl,rfl,h⟩:=getS_elim h
  refine iter_of (f39_p6_mk xx.2.1 xx.2.2.2.1.1 xx.2.2.2.1.2 xx.2.2.2.2.1) (fun x N h=>?_) rounds _ σ (hs.trans (by kernel_rfl)) (LoopP.run h)
  rw [← f39_p6e0 xx.2.1 xx.2.2.2.1.1 xx.2.2.2.1.2 xx.2.2.2.2.1 x N K]
  exact h
def f39_G0 : List TV→List Entry→(TV→List Entry→Prop)→Prop:=fun tm hp K=>getS [.v (.one (.sl 1))] [] tm hp fun (xx : ((LL×Bool)×Unit)) (yy : Unit)=>f39 xx.1.1 xx.1.2 (fun n0_1=>K (I n0_1) [])
theorem f39_eq (es_13 : LL) (full_14 : Bool) (K : TV→List Entry→Prop) : (f39_d es_13 full_14 (fun n0_1=>K (I n0_1) [])) = funcT f39_C Tryz.f39 [.w (.one (.p (.sl 1 es_13 full_14)))] [] K:=by kernel_rfl
set_option maxHeartbeats 4000000 in
theorem f39_ok0 : FnOk Tryz.prog glob 39 f39_G0:=by
  refine FnOk.of_text (C:=f39_C) tab_ok.ok (Known.none) follows_ok (fn:=Tryz.f39) (by kernel_rfl) (by kernel_rfl) (by kernel_rfl) (fun c hc=>?_) fun tm hp K h=>?_
  · have e : c = bodyOf Tryz.f39:=Option.some.inj (hc.symm.trans (by kernel_rfl))
    subst e
    exact ⟨LoopsOk.of [bd Tryz.f39 0] (by kernel_rfl) ⟨f39_p6_ok,trivial⟩,TailsOk.of (tab:=f39_tab) rfl [] (by kernel_rfl) trivial⟩
  · unfold f39_G0 at h
    obtain ⟨xx,yy,rfl,rfl,h⟩:=getS_elim h
    have e:=(f39_eq xx.1.1 xx.1.2 K).trans (show _ = funcT f39_C Tryz.f39 (mkR _ xx) (mkE _ yy) K by kernel_rfl)
    rw [← e]
    exact h.run
abbrev f39_G:=f39_G0
theorem f39_G_ok : FnOk Tryz.prog glob 39 f39_G:=f39_ok0
def f41_d (n1 : Int) (s2 : ByteArray) (n3 n4 : Int) (n5 n6 : Int) (n7 n8 : Int) (n9 n10 : Int) (n11 n12 n13 : Int) (s14 : ByteArray) (n15 : Int) (es16 : LL) (full17 : Bool) (k0 : Bool→Prop) : Prop:=k0 (decide ((es16.length : Int) > 32))
structure f41 (n1 : Int) (s2 : ByteArray) (n3 n4 : Int) (n5 n6 : Int) (n7 n8 : Int) (n9 n10 : Int) (n11 n12 n13 : Int) (s14 : ByteArray) (n15 : Int) (es16 : LL) (full17 : Bool) (k0 : Bool→Prop) : Prop where
  run : f41_d n1 s2 n3 n4 n5 n6 n7 n8 n9 n10 n11 n12 n13 s14 n15 es16 full17 k0
def f41_tab : List (Nat×Told):=[]
def f41_call : FuncId→List TV→List Entry→(TV→List Entry→Prop)→Prop:=noCalls
def f41_C : Ctx:=mkC [] [] [] [] [] false 0 true (lookL f41_tab) f41_call
def f41_G0 : List TV→List Entry→(TV→List Entry→Prop)→Prop:=fun tm hp K=>getS [.v (.one (.int .i64)),.v (.pagg [.str,.int .i64,.int .i64,.int .i64,.int .i64,.int .i64,.int .i64,.int .i64,.int .i64,.int .i64,.int .i64,.int .i64,.str,.int .i64,.sl 3])] [] tm hp fun (xx : (Int×((ByteArray×(Int×(Int×(Int×(Int×(Int×(Int×(Int×(Int×(Int×(Int×(Int×(ByteArray×(Int×((LL×Bool)×Unit)))))))))))))))×Unit))) (yy : Unit)=>f41 xx.1 xx.2.1.1 xx.2.1.2.1 xx.2.1.2.2.1 xx.2.1.2.2.2.1 xx.2.1.2.2.2.2.1 xx.2.1.2.2.2.2.2.1 xx.2.1.2.2.2.2.2.2.1 xx.2.1.2.2.2.2.2.2.2.1 xx.2.1.2.2.2.2.2.2.2.2.1 xx.2.1.2.2.2.2.2.2.2.2.2.1 xx.2.1.2.2.2.2.2.2.2.2.2.2.1 xx.2.1.2.2.2.2.2.2.2.2.2.2.2.1 xx.2.1.2.2.2.2.2.2.2.2.2.2.2.2.1 xx.2.1.2.2.2.2.2.2.2.2.2.2.2.2.2.1 xx.2.1.2.2.2.2.2.2.2.2.2.2.2.2.2.2.1.1 xx.2.1.2.2.2.2.2.2.2.2.2.2.2.2.2.2.1.2 (fun b0_0=>K (B b0_0) [])
theorem f41_eq (n_1 : Int) (s_2 : ByteArray) (n_3 n_4 : Int) (n_5 n_6 : Int) (n_7 n_8 : Int) (n_9 n_10 : Int) (n_11 n_12 n_13 : Int) (s_14 : ByteArray) (n_15 : Int) (es_16 : LL) (full_17 : Bool) (K : TV→List Entry→Prop) : (f41_d n_1 s_2 n_3 n_4 n_5 n_6 n_7 n_8 n_9 n_10 n_11 n_12 n_13 s_14 n_15 es_16 full_17 (fun b0_0=>K (B b0_0) [])) = funcT f41_C Tryz.f41 [I n_1,.w (.pagg [pS s_2,pI n_3,pI n_4,pI n_5,pI n_6,pI n_7,pI n_8,pI n_9,pI n_10,pI n_11,pI n_12,pI n_13,pS s_14,pI n_15,.sl 3 es_16 full_17])] [] K:=by kernel_rfl
set_option maxHeartbeats 4000000 in
theorem f41_ok0 : FnOk Tryz.prog glob 41 f41_G0:=by
  refine FnOk.of_text (C:=f41_C) tab_ok.ok (Known.none) follows_ok (fn:=Tryz.f41) (by kernel_rfl) (by kernel_rfl) (by kernel_rfl) (fun c hc=>?_) fun tm hp K h=>?_
  · have e : c = bodyOf Tryz.f41:=Option.some.inj (hc.symm.trans (by kernel_rfl))
    subst e
    exact ⟨LoopsOk.of [] (by kernel_rfl) trivial,TailsOk.of (tab:=f41_tab) rfl [] (by kernel_rfl) trivial⟩
  · unfold f41_G0 at h
    obtain ⟨xx,yy,rfl,rfl,h⟩:=getS_elim h
    have e:=(f41_eq xx.1 xx.2.1.1 xx.2.1.2.1 xx.2.1.2.2.1 xx.2.1.2.2.2.1 xx.2.1.2.2.2.2.1 xx.2.1.2.2.2.2.2.1 xx.2.1.2.2.2.2.2.2.1 xx.2.1.2.2.2.2.2.2.2.1 xx.2.1.2.2.2.2.2.2.2.2.1 xx.2.1.2.2.2.2.2.2.2.2.2.1 xx.2.1.2.2.2.2.2.2.2.2.2.2.1 xx.2.1.2.2.2.2.2.2.2.2.2.2.2.1 xx.2.1.2.2.2.2.2.2.2.2.2.2.2.2.1 xx.2.1.2.2.2.2.2.2.2.2.2.2.2.2.2.1 xx.2.1.2.2.2.2.2.2.2.2.2.2.2.2.2.2.1.1 xx.2.1.2.2.2.2.2.2.2.2.2.2.2.2.2.2.1.2 K).trans (show _ = funcT f41_C Tryz.f41 (mkR _ xx) (mkE _ yy) K by kernel_rfl)
    rw [← e]
    exact h.run
abbrev f41_G:=f41_G0
theorem f41_G_ok : FnOk Tryz.prog glob 41 f41_G:=f41_ok0
def f40_p4b0 (n4 : Int) (es5 : LL) (full6 : Bool) (n7 n8 : Int) (N0 : Int→Prop) (k0 : Unit→Prop) (k1 : Unit→Prop) : Prop:=bB (decide (n8 < n7)) ((0≤n8∧n8 < (es5.length : Int))∧cS (ext (List.getD es5 (Int.toNat n8) []) 0 15) fun s10 r9=>cI .i64 r9 fun n12 r11=>cI .i64 r11 fun n14 r13=>cI .i64 r13 fun n16 r15=>cI .i64 r15 fun n18 r17=>cI .i64 r17 fun n20 r19=>cI .i64 r19 fun n22 r21=>cI .i64 r21 fun n24 r23=>cI .i64 r23 fun n26 r25=>cI .i64 r25 fun n28 r27=>cI .i64 r27 fun n30 r29=>cI .i64 r29 fun n32 r31=>cS r31 fun s34 r33=>cI .i64 r33 fun n36 r35=>cL 3 r35 fun es38 full39 r37=>nilC r37 <| f41 n8 s10 n12 n14 n16 n18 n20 n22 n24 n26 n28 n30 n32 s34 n36 es38 full39 (fun b40=>bB b40 (k0 ()) (N0 (w64 (n8 + 1))))) (k1 ())
def f40_p4 (n4 : Int) (es5 : LL) (full6 : Bool) (n7 : Int) (k0 : Unit→Prop) (k1 : Unit→Prop) : Int→Prop:=LoopP fun x N=>f40_p4b0 n4 es5 full6 n7 x (fun n8=>N n8) k0 k1
def f40_d (es1 : LL) (full2 : Bool) (n3 : Int) (k0 : Int→Prop) : Prop:=f40_p4 n3 es1 full2 (es1.length : Int) (fun (_ : Unit)=>k0 n3) (fun (_ : Unit)=>k0 0) 0
structure f40 (es1 : LL) (full2 : Bool) (n3 : Int) (k0 : Int→Prop) : Prop where
  run : f40_d es1 full2 n3 k0
def f40_p4L : Told:=fun s K=>match s with
  | ⟨tm,hp⟩=>getS [.skip 1,.v (.one (.int .i64)),.v (.one (.fn 41)),.skip 6,.v (.one (.sl 15)),.v (.one (.int .i64)),.v (.one (.int .i64)),.skip 10] [] tm hp fun (xx : (Unit×(Int×(Unit×(Unit×((LL×Bool)×(Int×(Int×(Unit×Unit))))))))) (yy : Unit)=>f40_p4 xx.2.1 xx.2.2.2.2.1.1 xx.2.2.2.2.1.2 xx.2.2.2.2.2.1 (fun (_ : Unit)=>K .ret ⟨mkS 22 [(6,I xx.2.1)],[]⟩) (fun (_ : Unit)=>K (.exit 0) ⟨mkS 22 [],[]⟩) xx.2.2.2.2.2.2.1
def f40_tab : List (Nat×Told):=[(4,f40_p4L)]
def f40_call : FuncId→List TV→List Entry→(TV→List Entry→Prop)→Prop:=addCall 41 f41_G (noCalls)
def f40_C : Ctx:=mkC [(4,[(0,[1,2,9,10,11]),(2,[6]),(3,[])])] [] [] [] [] false 0 true (lookL f40_tab) f40_call
def f40_p4_mk (n4 : Int) (es5 : LL) (full6 : Bool) (n7 x : Int) : St:=⟨mkS 22 [(1,I n4),(2,.w (.one (.p (.c (.func (.func 41) #[] #[]))))),(9,.w (.one (.p (.sl 15 es5 full6)))),(10,I n7),(11,I x)],[]⟩
theorem f40_p4e0 (n_6 : Int) (es_7 : LL) (full_8 : Bool) (n_9 n_10 : Int) (N : St→Prop) (K : TExit→St→Prop) : (f40_p4b0 n_6 es_7 full_8 n_9 n_10 (fun z4=>N (f40_p4_mk n_6 es_7 full_8 n_9 z4)) (fun (_ : Unit)=>K .ret ⟨mkS 22 [(6,I n_6)],[]⟩) (fun (_ : Unit)=>K (.exit 0) ⟨mkS 22 [],[]⟩)) = execT f40_C (bd Tryz.f40 0) (f40_p4_mk n_6 es_7 full_8 n_9 n_10) (loopK N (normK f40_C 4) fun e s=>K e (normOut f40_C 4 e s)):=by kernel_rfl
set_option maxHeartbeats 4000000 in
theorem f40_p4_ok : LoopOk f40_C (bd Tryz.f40 0):=by
  refine LoopOk.of f40_p4L (by kernel_rfl) fun σ K h=>?_
  have hk : loopKey (bd Tryz.f40 0) = 4:=by kernel_rfl
  rw [hk] at h ⊢
  generalize hs : normK f40_C 4 σ = s at h
  obtain ⟨tm,hp⟩:=s
  unfold f40_p4L at h
  dsimp only at h
  obtain ⟨xx,yy,rfl,rfl,h⟩:=getS_elim h
  refine iter_of (f40_p4_mk xx.2.1 xx.2.2.2.2.1.1 xx.2.2.2.2.1.2 xx.2.2.2.2.2.1) (fun x N h=>?_) rounds _ σ (hs.trans (by kernel_rfl)) (LoopP.run h)
  rw [← f40_p4e0 xx.2.1 xx.2.2.2.2.1.1 xx.2.2.2.2.1.2 xx.2.2.2.2.2.1 x N K]
  exact h
def f40_G0 : List TV→List Entry→(TV→List Entry→Prop)→Prop:=fun tm hp K=>getS [.v (.one (.sl 15)),.v (.one (.int .i64)),.v (.one (.fn 41))] [] tm hp fun (xx : ((LL×Bool)×(Int×(Unit×Unit)))) (yy : Unit)=>f40 xx.1.1 xx.1.2 xx.2.1 (fun n0_0=>K (I n0_0) [])
theorem f40_eq (es_11 : LL) (full_12 : Bool) (n_13 : Int) (K : TV→List Entry→Prop) : (f40_d es_11 full_12 n_13 (fun n0_0=>K (I n0_0) [])) = funcT f40_C Tryz.f40 [.w (.one (.p (.sl 15 es_11 full_12))),I n_13,.w (.one (.p (.c (.func (.func 41) #[] #[]))))] [] K:=by kernel_rfl
set_option maxHeartbeats 4000000 in
theorem f40_ok0 : FnOk Tryz.prog glob 40 f40_G0:=by
  refine FnOk.of_text (C:=f40_C) tab_ok.ok (Known.add f41_G_ok (Known.none)) follows_ok (fn:=Tryz.f40) (by kernel_rfl) (by kernel_rfl) (by kernel_rfl) (fun c hc=>?_) fun tm hp K h=>?_
  · have e : c = bodyOf Tryz.f40:=Option.some.inj (hc.symm.trans (by kernel_rfl))
    subst e
    exact ⟨LoopsOk.of [bd Tryz.f40 0] (by kernel_rfl) ⟨f40_p4_ok,trivial⟩,TailsOk.of (tab:=f40_tab) rfl [] (by kernel_rfl) trivial⟩
  · unfold f40_G0 at h
    obtain ⟨xx,yy,rfl,rfl,h⟩:=getS_elim h
    have e:=(f40_eq xx.1.1 xx.1.2 xx.2.1 K).trans (show _ = funcT f40_C Tryz.f40 (mkR _ xx) (mkE _ yy) K by kernel_rfl)
    rw [← e]
    exact h.run
abbrev f40_G:=f40_G0
theorem f40_G_ok : FnOk Tryz.prog glob 40 f40_G:=f40_ok0
def f42_d (n1 : Int) (s2 : ByteArray) (n3 n4 : Int) (n5 n6 : Int) (n7 n8 : Int) (n9 n10 : Int) (n11 n12 n13 : Int) (s14 : ByteArray) (n15 : Int) (es16 : LL) (full17 : Bool) (k0 : Bool→Prop) : Prop:=f29 s2 (fun b18=>k0 (!b18))
structure f42 (n1 : Int) (s2 : ByteArray) (n3 n4 : Int) (n5 n6 : Int) (n7 n8 : Int) (n9 n10 : Int) (n11 n12 n13 : Int) (s14 : ByteArray) (n15 : Int) (es16 : LL) (full17 : Bool) (k0 : Bool→Prop) : Prop where
  run : f42_d n1 s2 n3 n4 n5 n6 n7 n8 n9 n10 n11 n12 n13 s14 n15 es16 full17 k0
def f42_tab : List (Nat×Told):=[]
def f42_call : FuncId→List TV→List Entry→(TV→List Entry→Prop)→Prop:=addCall 29 f29_G (noCalls)
def f42_C : Ctx:=mkC [] [] [] [] [] false 0 true (lookL f42_tab) f42_call
def f42_G0 : List TV→List Entry→(TV→List Entry→Prop)→Prop:=fun tm hp K=>getS [.v (.one (.int .i64)),.v (.pagg [.str,.int .i64,.int .i64,.int .i64,.int .i64,.int .i64,.int .i64,.int .i64,.int .i64,.int .i64,.int .i64,.int .i64,.str,.int .i64,.sl 3])] [] tm hp fun (xx : (Int×((ByteArray×(Int×(Int×(Int×(Int×(Int×(Int×(Int×(Int×(Int×(Int×(Int×(ByteArray×(Int×((LL×Bool)×Unit)))))))))))))))×Unit))) (yy : Unit)=>f42 xx.1 xx.2.1.1 xx.2.1.2.1 xx.2.1.2.2.1 xx.2.1.2.2.2.1 xx.2.1.2.2.2.2.1 xx.2.1.2.2.2.2.2.1 xx.2.1.2.2.2.2.2.2.1 xx.2.1.2.2.2.2.2.2.2.1 xx.2.1.2.2.2.2.2.2.2.2.1 xx.2.1.2.2.2.2.2.2.2.2.2.1 xx.2.1.2.2.2.2.2.2.2.2.2.2.1 xx.2.1.2.2.2.2.2.2.2.2.2.2.2.1 xx.2.1.2.2.2.2.2.2.2.2.2.2.2.2.1 xx.2.1.2.2.2.2.2.2.2.2.2.2.2.2.2.1 xx.2.1.2.2.2.2.2.2.2.2.2.2.2.2.2.2.1.1 xx.2.1.2.2.2.2.2.2.2.2.2.2.2.2.2.2.1.2 (fun b0_0=>K (B b0_0) [])
theorem f42_eq (n_1 : Int) (s_2 : ByteArray) (n_3 n_4 : Int) (n_5 n_6 : Int) (n_7 n_8 : Int) (n_9 n_10 : Int) (n_11 n_12 n_13 : Int) (s_14 : ByteArray) (n_15 : Int) (es_16 : LL) (full_17 : Bool) (K : TV→List Entry→Prop) : (f42_d n_1 s_2 n_3 n_4 n_5 n_6 n_7 n_8 n_9 n_10 n_11 n_12 n_13 s_14 n_15 es_16 full_17 (fun b0_0=>K (B b0_0) [])) = funcT f42_C Tryz.f42 [I n_1,.w (.pagg [pS s_2,pI n_3,pI n_4,pI n_5,pI n_6,pI n_7,pI n_8,pI n_9,pI n_10,pI n_11,pI n_12,pI n_13,pS s_14,pI n_15,.sl 3 es_16 full_17])] [] K:=by kernel_rfl
set_option maxHeartbeats 4000000 in
theorem f42_ok0 : FnOk Tryz.prog glob 42 f42_G0:=by
  refine FnOk.of_text (C:=f42_C) tab_ok.ok (Known.add f29_G_ok (Known.none)) follows_ok (fn:=Tryz.f42) (by kernel_rfl) (by kernel_rfl) (by kernel_rfl) (fun c hc=>?_) fun tm hp K h=>?_
  · have e : c = bodyOf Tryz.f42:=Option.some.inj (hc.symm.trans (by kernel_rfl))
    subst e
    exact ⟨LoopsOk.of [] (by kernel_rfl) trivial,TailsOk.of (tab:=f42_tab) rfl [] (by kernel_rfl) trivial⟩
  · unfold f42_G0 at h
    obtain ⟨xx,yy,rfl,rfl,h⟩:=getS_elim h
    have e:=(f42_eq xx.1 xx.2.1.1 xx.2.1.2.1 xx.2.1.2.2.1 xx.2.1.2.2.2.1 xx.2.1.2.2.2.2.1 xx.2.1.2.2.2.2.2.1 xx.2.1.2.2.2.2.2.2.1 xx.2.1.2.2.2.2.2.2.2.1 xx.2.1.2.2.2.2.2.2.2.2.1 xx.2.1.2.2.2.2.2.2.2.2.2.1 xx.2.1.2.2.2.2.2.2.2.2.2.2.1 xx.2.1.2.2.2.2.2.2.2.2.2.2.2.1 xx.2.1.2.2.2.2.2.2.2.2.2.2.2.2.1 xx.2.1.2.2.2.2.2.2.2.2.2.2.2.2.2.1 xx.2.1.2.2.2.2.2.2.2.2.2.2.2.2.2.2.1.1 xx.2.1.2.2.2.2.2.2.2.2.2.2.2.2.2.2.1.2 K).trans (show _ = funcT f42_C Tryz.f42 (mkR _ xx) (mkE _ yy) K by kernel_rfl)
    rw [← e]
    exact h.run
abbrev f42_G:=f42_G0
theorem f42_G_ok : FnOk Tryz.prog glob 42 f42_G:=f42_ok0
def f40_1_p4b0 (n4 : Int) (es5 : LL) (full6 : Bool) (n7 n8 : Int) (N0 : Int→Prop) (k0 : Unit→Prop) (k1 : Unit→Prop) : Prop:=bB (decide (n8 < n7)) ((0≤n8∧n8 < (es5.length : Int))∧cS (ext (List.getD es5 (Int.toNat n8) []) 0 15) fun s10 r9=>cI .i64 r9 fun n12 r11=>cI .i64 r11 fun n14 r13=>cI .i64 r13 fun n16 r15=>cI .i64 r15 fun n18 r17=>cI .i64 r17 fun n20 r19=>cI .i64 r19 fun n22 r21=>cI .i64 r21 fun n24 r23=>cI .i64 r23 fun n26 r25=>cI .i64 r25 fun n28 r27=>cI .i64 r27 fun n30 r29=>cI .i64 r29 fun n32 r31=>cS r31 fun s34 r33=>cI .i64 r33 fun n36 r35=>cL 3 r35 fun es38 full39 r37=>nilC r37 <| f42 n8 s10 n12 n14 n16 n18 n20 n22 n24 n26 n28 n30 n32 s34 n36 es38 full39 (fun b40=>bB b40 (k0 ()) (N0 (w64 (n8 + 1))))) (k1 ())
def f40_1_p4 (n4 : Int) (es5 : LL) (full6 : Bool) (n7 : Int) (k0 : Unit→Prop) (k1 : Unit→Prop) : Int→Prop:=LoopP fun x N=>f40_1_p4b0 n4 es5 full6 n7 x (fun n8=>N n8) k0 k1
def f40_1_d (es1 : LL) (full2 : Bool) (n3 : Int) (k0 : Int→Prop) : Prop:=f40_1_p4 n3 es1 full2 (es1.length : Int) (fun (_ : Unit)=>k0 n3) (fun (_ : Unit)=>k0 0) 0
structure f40_1 (es1 : LL) (full2 : Bool) (n3 : Int) (k0 : Int→Prop) : Prop where
  run : f40_1_d es1 full2 n3 k0
def f40_1_p4L : Told:=fun s K=>match s with
  | ⟨tm,hp⟩=>getS [.skip 1,.v (.one (.int .i64)),.v (.one (.fn 42)),.skip 6,.v (.one (.sl 15)),.v (.one (.int .i64)),.v (.one (.int .i64)),.skip 10] [] tm hp fun (xx : (Unit×(Int×(Unit×(Unit×((LL×Bool)×(Int×(Int×(Unit×Unit))))))))) (yy : Unit)=>f40_1_p4 xx.2.1 xx.2.2.2.2.1.1 xx.2.2.2.2.1.2 xx.2.2.2.2.2.1 (fun (_ : Unit)=>K .ret ⟨mkS 22 [(6,I xx.2.1)],[]⟩) (fun (_ : Unit)=>K (.exit 0) ⟨mkS 22 [],[]⟩) xx.2.2.2.2.2.2.1
def f40_1_tab : List (Nat×Told):=[(4,f40_1_p4L)]
def f40_1_call : FuncId→List TV→List Entry→(TV→List Entry→Prop)→Prop:=addCall 42 f42_G (noCalls)
def f40_1_C : Ctx:=mkC [(4,[(0,[1,2,9,10,11]),(2,[6]),(3,[])])] [] [] [] [] false 0 true (lookL f40_1_tab) f40_1_call
def f40_1_p4_mk (n4 : Int) (es5 : LL) (full6 : Bool) (n7 x : Int) : St:=⟨mkS 22 [(1,I n4),(2,.w (.one (.p (.c (.func (.func 42) #[] #[]))))),(9,.w (.one (.p (.sl 15 es5 full6)))),(10,I n7),(11,I x)],[]⟩
theorem f40_1_p4e0 (n_6 : Int) (es_7 : LL) (full_8 : Bool) (n_9 n_10 : Int) (N : St→Prop) (K : TExit→St→Prop) : (f40_1_p4b0 n_6 es_7 full_8 n_9 n_10 (fun z4=>N (f40_1_p4_mk n_6 es_7 full_8 n_9 z4)) (fun (_ : Unit)=>K .ret ⟨mkS 22 [(6,I n_6)],[]⟩) (fun (_ : Unit)=>K (.exit 0) ⟨mkS 22 [],[]⟩)) = execT f40_1_C (bd Tryz.f40 0) (f40_1_p4_mk n_6 es_7 full_8 n_9 n_10) (loopK N (normK f40_1_C 4) fun e s=>K e (normOut f40_1_C 4 e s)):=by kernel_rfl
set_option maxHeartbeats 4000000 in
theorem f40_1_p4_ok : LoopOk f40_1_C (bd Tryz.f40 0):=by
  refine LoopOk.of f40_1_p4L (by kernel_rfl) fun σ K h=>?_
  have hk : loopKey (bd Tryz.f40 0) = 4:=by kernel_rfl
  rw [hk] at h ⊢
  generalize hs : normK f40_1_C 4 σ = s at h
  obtain ⟨tm,hp⟩:=s
  unfold f40_1_p4L at h
  dsimp only at h
  obtain ⟨xx,yy,rfl,rfl,h⟩:=getS_elim h
  refine iter_of (f40_1_p4_mk xx.2.1 xx.2.2.2.2.1.1 xx.2.2.2.2.1.2 xx.2.2.2.2.2.1) (fun x N h=>?_) rounds _ σ (hs.trans (by kernel_rfl)) (LoopP.run h)
  rw [← f40_1_p4e0 xx.2.1 xx.2.2.2.2.1.1 xx.2.2.2.2.1.2 xx.2.2.2.2.2.1 x N K]
  exact h
def f40_1_G0 : List TV→List Entry→(TV→List Entry→Prop)→Prop:=fun tm hp K=>getS [.v (.one (.sl 15)),.v (.one (.int .i64)),.v (.one (.fn 42))] [] tm hp fun (xx : ((LL×Bool)×(Int×(Unit×Unit)))) (yy : Unit)=>f40_1 xx.1.1 xx.1.2 xx.2.1 (fun n0_0=>K (I n0_0) [])
theorem f40_1_eq (es_11 : LL) (full_12 : Bool) (n_13 : Int) (K : TV→List Entry→Prop) : (f40_1_d es_11 full_12 n_13 (fun n0_0=>K (I n0_0) [])) = funcT f40_1_C Tryz.f40 [.w (.one (.p (.sl 15 es_11 full_12))),I n_13,.w (.one (.p (.c (.func (.func 42) #[] #[]))))] [] K:=by kernel_rfl
set_option maxHeartbeats 4000000 in
theorem f40_1_ok0 : FnOk Tryz.prog glob 40 f40_1_G0:=by
  refine FnOk.of_text (C:=f40_1_C) tab_ok.ok (Known.add f42_G_ok (Known.none)) follows_ok (fn:=Tryz.f40) (by kernel_rfl) (by kernel_rfl) (by kernel_rfl) (fun c hc=>?_) fun tm hp K h=>?_
  · have e : c = bodyOf Tryz.f40:=Option.some.inj (hc.symm.trans (by kernel_rfl))
    subst e
    exact ⟨LoopsOk.of [bd Tryz.f40 0] (by kernel_rfl) ⟨f40_1_p4_ok,trivial⟩,TailsOk.of (tab:=f40_1_tab) rfl [] (by kernel_rfl) trivial⟩
  · unfold f40_1_G0 at h
    obtain ⟨xx,yy,rfl,rfl,h⟩:=getS_elim h
    have e:=(f40_1_eq xx.1.1 xx.1.2 xx.2.1 K).trans (show _ = funcT f40_1_C Tryz.f40 (mkR _ xx) (mkE _ yy) K by kernel_rfl)
    rw [← e]
    exact h.run
def f40_1_G : List TV→List Entry→(TV→List Entry→Prop)→Prop:=fun args H K=>bif isSig (sigOf args H) [5,2,1042,7] then f40_1_G0 args H K else f40_G args H K
theorem f40_1_G_ok : FnOk Tryz.prog glob 40 f40_1_G:=FnOk.or _ f40_1_ok0 f40_G_ok
def f43_d (n1 : Int) (s2 : ByteArray) (n3 n4 : Int) (n5 n6 : Int) (n7 n8 : Int) (n9 n10 : Int) (n11 n12 n13 : Int) (s14 : ByteArray) (n15 : Int) (es16 : LL) (full17 : Bool) (m18 : MP) (k0 : Bool→MP→Prop) : Prop:=oB ((MP.get (.string s2) m18).getD [pB false]) fun b19=>k0 b19 (MP.put (.string s2) [pB true] m18)
structure f43 (n1 : Int) (s2 : ByteArray) (n3 n4 : Int) (n5 n6 : Int) (n7 n8 : Int) (n9 n10 : Int) (n11 n12 n13 : Int) (s14 : ByteArray) (n15 : Int) (es16 : LL) (full17 : Bool) (m18 : MP) (k0 : Bool→MP→Prop) : Prop where
  run : f43_d n1 s2 n3 n4 n5 n6 n7 n8 n9 n10 n11 n12 n13 s14 n15 es16 full17 m18 k0
def f43_tab : List (Nat×Told):=[]
def f43_call : FuncId→List TV→List Entry→(TV→List Entry→Prop)→Prop:=noCalls
def f43_C : Ctx:=mkC [] [] [] [] [] false 2 true (lookL f43_tab) f43_call
def f43_G0 : List TV→List Entry→(TV→List Entry→Prop)→Prop:=fun tm hp K=>getS [.v (.one (.int .i64)),.v (.pagg [.str,.int .i64,.int .i64,.int .i64,.int .i64,.int .i64,.int .i64,.int .i64,.int .i64,.int .i64,.int .i64,.int .i64,.str,.int .i64,.sl 3]),.v (.one (.ptr 0 0 0))] [.box [.mref 1],.mp (.str) false] tm hp fun (xx : (Int×((ByteArray×(Int×(Int×(Int×(Int×(Int×(Int×(Int×(Int×(Int×(Int×(Int×(ByteArray×(Int×((LL×Bool)×Unit)))))))))))))))×(Unit×Unit)))) (yy : ((Unit×Unit)×(MP×Unit)))=>f43 xx.1 xx.2.1.1 xx.2.1.2.1 xx.2.1.2.2.1 xx.2.1.2.2.2.1 xx.2.1.2.2.2.2.1 xx.2.1.2.2.2.2.2.1 xx.2.1.2.2.2.2.2.2.1 xx.2.1.2.2.2.2.2.2.2.1 xx.2.1.2.2.2.2.2.2.2.2.1 xx.2.1.2.2.2.2.2.2.2.2.2.1 xx.2.1.2.2.2.2.2.2.2.2.2.2.1 xx.2.1.2.2.2.2.2.2.2.2.2.2.2.1 xx.2.1.2.2.2.2.2.2.2.2.2.2.2.2.1 xx.2.1.2.2.2.2.2.2.2.2.2.2.2.2.2.1 xx.2.1.2.2.2.2.2.2.2.2.2.2.2.2.2.2.1.1 xx.2.1.2.2.2.2.2.2.2.2.2.2.2.2.2.2.1.2 yy.2.1 (fun b0_0 m0_1=>K (B b0_0) [.box [.mref 1],.mp (.str) false m0_1])
theorem f43_eq (n_2 : Int) (s_3 : ByteArray) (n_4 n_5 : Int) (n_6 n_7 : Int) (n_8 n_9 : Int) (n_10 n_11 : Int) (n_12 n_13 n_14 : Int) (s_15 : ByteArray) (n_16 : Int) (es_17 : LL) (full_18 : Bool) (m_19 : MP) (K : TV→List Entry→Prop) : (f43_d n_2 s_3 n_4 n_5 n_6 n_7 n_8 n_9 n_10 n_11 n_12 n_13 n_14 s_15 n_16 es_17 full_18 m_19 (fun b0_0 m0_1=>K (B b0_0) [.box [.mref 1],.mp (.str) false m0_1])) = funcT f43_C Tryz.f43 [I n_2,.w (.pagg [pS s_3,pI n_4,pI n_5,pI n_6,pI n_7,pI n_8,pI n_9,pI n_10,pI n_11,pI n_12,pI n_13,pI n_14,pS s_15,pI n_16,.sl 3 es_17 full_18]),.w (.one (.ptr 0 0 0))] [.box [.mref 1],.mp (.str) false m_19] K:=by kernel_rfl
set_option maxHeartbeats 4000000 in
theorem f43_ok0 : FnOk Tryz.prog glob 43 f43_G0:=by
  refine FnOk.of_text (C:=f43_C) tab_ok.ok (Known.none) follows_ok (fn:=Tryz.f43) (by kernel_rfl) (by kernel_rfl) (by kernel_rfl) (fun c hc=>?_) fun tm hp K h=>?_
  · have e : c = bodyOf Tryz.f43:=Option.some.inj (hc.symm.trans (by kernel_rfl))
    subst e
    exact ⟨LoopsOk.of [] (by kernel_rfl) trivial,TailsOk.of (tab:=f43_tab) rfl [] (by kernel_rfl) trivial⟩
  · unfold f43_G0 at h
    obtain ⟨xx,yy,rfl,rfl,h⟩:=getS_elim h
    have e:=(f43_eq xx.1 xx.2.1.1 xx.2.1.2.1 xx.2.1.2.2.1 xx.2.1.2.2.2.1 xx.2.1.2.2.2.2.1 xx.2.1.2.2.2.2.2.1 xx.2.1.2.2.2.2.2.2.1 xx.2.1.2.2.2.2.2.2.2.1 xx.2.1.2.2.2.2.2.2.2.2.1 xx.2.1.2.2.2.2.2.2.2.2.2.1 xx.2.1.2.2.2.2.2.2.2.2.2.2.1 xx.2.1.2.2.2.2.2.2.2.2.2.2.2.1 xx.2.1.2.2.2.2.2.2.2.2.2.2.2.2.1 xx.2.1.2.2.2.2.2.2.2.2.2.2.2.2.2.1 xx.2.1.2.2.2.2.2.2.2.2.2.2.2.2.2.2.1.1 xx.2.1.2.2.2.2.2.2.2.2.2.2.2.2.2.2.1.2 yy.2.1 K).trans (show _ = funcT f43_C Tryz.f43 (mkR _ xx) (mkE _ yy) K by kernel_rfl)
    rw [← e]
    exact h.run
abbrev f43_G:=f43_G0
theorem f43_G_ok : FnOk Tryz.prog glob 43 f43_G:=f43_ok0
def f40_2_p4b0 (n5 : Int) (es6 : LL) (full7 : Bool) (n8 n9 : Int) (m10 : MP) (N0 : Int→MP→Prop) (k0 : MP→Prop) (k1 : MP→Prop) : Prop:=bB (decide (n9 < n8)) ((0≤n9∧n9 < (es6.length : Int))∧cS (ext (List.getD es6 (Int.toNat n9) []) 0 15) fun s12 r11=>cI .i64 r11 fun n14 r13=>cI .i64 r13 fun n16 r15=>cI .i64 r15 fun n18 r17=>cI .i64 r17 fun n20 r19=>cI .i64 r19 fun n22 r21=>cI .i64 r21 fun n24 r23=>cI .i64 r23 fun n26 r25=>cI .i64 r25 fun n28 r27=>cI .i64 r27 fun n30 r29=>cI .i64 r29 fun n32 r31=>cI .i64 r31 fun n34 r33=>cS r33 fun s36 r35=>cI .i64 r35 fun n38 r37=>cL 3 r37 fun es40 full41 r39=>nilC r39 <| f43 n9 s12 n14 n16 n18 n20 n22 n24 n26 n28 n30 n32 n34 s36 n38 es40 full41 m10 (fun b42 m43=>bB b42 (k0 m43) (N0 (w64 (n9 + 1)) m43))) (k1 m10)
def f40_2_p4 (n5 : Int) (es6 : LL) (full7 : Bool) (n8 : Int) (k0 : MP→Prop) (k1 : MP→Prop) : Int×MP→Prop:=LoopP fun x N=>f40_2_p4b0 n5 es6 full7 n8 x.1 x.2 (fun n9 m10=>N (n9,m10)) k0 k1
def f40_2_d (es1 : LL) (full2 : Bool) (n3 : Int) (m4 : MP) (k0 : Int→MP→Prop) : Prop:=f40_2_p4 n3 es1 full2 (es1.length : Int) (fun m44=>k0 n3 m44) (fun m45=>k0 0 m45) (0,m4)
structure f40_2 (es1 : LL) (full2 : Bool) (n3 : Int) (m4 : MP) (k0 : Int→MP→Prop) : Prop where
  run : f40_2_d es1 full2 n3 m4 k0
def f40_2_p4L : Told:=fun s K=>match s with
  | ⟨tm,hp⟩=>getS [.skip 1,.v (.one (.int .i64)),.v (.clo 43 [] [.ptr 0 0 0]),.skip 6,.v (.one (.sl 15)),.v (.one (.int .i64)),.v (.one (.int .i64)),.skip 10] [.box [.mref 1],.mp (.str) false] tm hp fun (xx : (Unit×(Int×((Unit×(Unit×Unit))×(Unit×((LL×Bool)×(Int×(Int×(Unit×Unit))))))))) (yy : ((Unit×Unit)×(MP×Unit)))=>f40_2_p4 xx.2.1 xx.2.2.2.2.1.1 xx.2.2.2.2.1.2 xx.2.2.2.2.2.1 (fun m0_0=>K .ret ⟨mkS 22 [(6,I xx.2.1)],[.box [.mref 1],.mp (.str) false m0_0]⟩) (fun m1_1=>K (.exit 0) ⟨mkS 22 [],[.box [.mref 1],.mp (.str) false m1_1]⟩) (xx.2.2.2.2.2.2.1,yy.2.1)
def f40_2_tab : List (Nat×Told):=[(4,f40_2_p4L)]
def f40_2_call : FuncId→List TV→List Entry→(TV→List Entry→Prop)→Prop:=addCall 43 f43_G (noCalls)
def f40_2_C : Ctx:=mkC [(4,[(0,[1,2,9,10,11]),(2,[6]),(3,[])])] [] [] [] [] false 2 true (lookL f40_2_tab) f40_2_call
def f40_2_p4_mk (n5 : Int) (es6 : LL) (full7 : Bool) (n8 : Int) (x : Int×MP) : St:=⟨mkS 22 [(1,I n5),(2,.w (.one (.clo 43 [] [.ptr 0 0 0]))),(9,.w (.one (.p (.sl 15 es6 full7)))),(10,I n8),(11,I x.1)],[.box [.mref 1],.mp (.str) false x.2]⟩
theorem f40_2_p4e0 (n_10 : Int) (es_11 : LL) (full_12 : Bool) (n_13 n_14 : Int) (m_15 : MP) (N : St→Prop) (K : TExit→St→Prop) : (f40_2_p4b0 n_10 es_11 full_12 n_13 n_14 m_15 (fun z4 z5=>N (f40_2_p4_mk n_10 es_11 full_12 n_13 (z4,z5))) (fun m0_16=>K .ret ⟨mkS 22 [(6,I n_10)],[.box [.mref 1],.mp (.str) false m0_16]⟩) (fun m1_17=>K (.exit 0) ⟨mkS 22 [],[.box [.mref 1],.mp (.str) false m1_17]⟩)) = execT f40_2_C (bd Tryz.f40 0) (f40_2_p4_mk n_10 es_11 full_12 n_13 (n_14,m_15)) (loopK N (normK f40_2_C 4) fun e s=>K e (normOut f40_2_C 4 e s)):=by kernel_rfl
set_option maxHeartbeats 4000000 in
theorem f40_2_p4_ok : LoopOk f40_2_C (bd Tryz.f40 0):=by
  refine LoopOk.of f40_2_p4L (by kernel_rfl) fun σ K h=>?_
  have hk : loopKey (bd Tryz.f40 0) = 4:=by kernel_rfl
  rw [hk] at h ⊢
  generalize hs : normK f40_2_C 4 σ = s at h
  obtain ⟨tm,hp⟩:=s
  unfold f40_2_p4L at h
  dsimp only at h
  obtain ⟨xx,yy,rfl,rfl,h⟩:=getS_elim h
  refine iter_of (f40_2_p4_mk xx.2.1 xx.2.2.2.2.1.1 xx.2.2.2.2.1.2 xx.2.2.2.2.2.1) (fun x N h=>?_) rounds _ σ (hs.trans (by kernel_rfl)) (LoopP.run h)
  obtain ⟨y0,y1⟩:=x
  rw [← f40_2_p4e0 xx.2.1 xx.2.2.2.2.1.1 xx.2.2.2.2.1.2 xx.2.2.2.2.2.1 y0 y1 N K]
  exact h
def f40_2_G0 : List TV→List Entry→(TV→List Entry→Prop)→Prop:=fun tm hp K=>getS [.v (.one (.sl 15)),.v (.one (.int .i64)),.v (.clo 43 [] [.ptr 0 0 0])] [.box [.mref 1],.mp (.str) false] tm hp fun (xx : ((LL×Bool)×(Int×((Unit×(Unit×Unit))×Unit)))) (yy : ((Unit×Unit)×(MP×Unit)))=>f40_2 xx.1.1 xx.1.2 xx.2.1 yy.2.1 (fun n0_2 m0_3=>K (I n0_2) [.box [.mref 1],.mp (.str) false m0_3])
theorem f40_2_eq (es_18 : LL) (full_19 : Bool) (n_20 : Int) (m_21 : MP) (K : TV→List Entry→Prop) : (f40_2_d es_18 full_19 n_20 m_21 (fun n0_2 m0_3=>K (I n0_2) [.box [.mref 1],.mp (.str) false m0_3])) = funcT f40_2_C Tryz.f40 [.w (.one (.p (.sl 15 es_18 full_19))),I n_20,.w (.one (.clo 43 [] [.ptr 0 0 0]))] [.box [.mref 1],.mp (.str) false m_21] K:=by kernel_rfl
set_option maxHeartbeats 4000000 in
theorem f40_2_ok0 : FnOk Tryz.prog glob 40 f40_2_G0:=by
  refine FnOk.of_text (C:=f40_2_C) tab_ok.ok (Known.add f43_G_ok (Known.none)) follows_ok (fn:=Tryz.f40) (by kernel_rfl) (by kernel_rfl) (by kernel_rfl) (fun c hc=>?_) fun tm hp K h=>?_
  · have e : c = bodyOf Tryz.f40:=Option.some.inj (hc.symm.trans (by kernel_rfl))
    subst e
    exact ⟨LoopsOk.of [bd Tryz.f40 0] (by kernel_rfl) ⟨f40_2_p4_ok,trivial⟩,TailsOk.of (tab:=f40_2_tab) rfl [] (by kernel_rfl) trivial⟩
  · unfold f40_2_G0 at h
    obtain ⟨xx,yy,rfl,rfl,h⟩:=getS_elim h
    have e:=(f40_2_eq xx.1.1 xx.1.2 xx.2.1 yy.2.1 K).trans (show _ = funcT f40_2_C Tryz.f40 (mkR _ xx) (mkE _ yy) K by kernel_rfl)
    rw [← e]
    exact h.run
def f40_2_G : List TV→List Entry→(TV→List Entry→Prop)→Prop:=fun args H K=>bif isSig (sigOf args H) [5,2,100043,7,20,501,25] then f40_2_G0 args H K else f40_1_G args H K
theorem f40_2_G_ok : FnOk Tryz.prog glob 40 f40_2_G:=FnOk.or _ f40_2_ok0 f40_1_G_ok
def f44_d (n1 : Int) (s2 : ByteArray) (n3 n4 : Int) (n5 n6 : Int) (n7 n8 : Int) (n9 n10 : Int) (n11 n12 n13 : Int) (s14 : ByteArray) (n15 : Int) (es16 : LL) (full17 : Bool) (k0 : Bool→Prop) : Prop:=bB (!(s14.toList == (⟨#[]⟩ : ByteArray).toList)) (k0 (!((n3 == 0) && ((n4 == 0) && ((n5 == 0) && ((n6 == 0) && ((n7 == 0) && ((n8 == 0) && ((n9 == 0) && ((n10 == 0) && ((n11 == 0) && ((n12 == 0) && ((n13 == 0) && true))))))))))))) (k0 false)
structure f44 (n1 : Int) (s2 : ByteArray) (n3 n4 : Int) (n5 n6 : Int) (n7 n8 : Int) (n9 n10 : Int) (n11 n12 n13 : Int) (s14 : ByteArray) (n15 : Int) (es16 : LL) (full17 : Bool) (k0 : Bool→Prop) : Prop where
  run : f44_d n1 s2 n3 n4 n5 n6 n7 n8 n9 n10 n11 n12 n13 s14 n15 es16 full17 k0
def f44_tab : List (Nat×Told):=[]
def f44_call : FuncId→List TV→List Entry→(TV→List Entry→Prop)→Prop:=noCalls
def f44_C : Ctx:=mkC [] [] [] [] [] false 0 true (lookL f44_tab) f44_call
def f44_G0 : List TV→List Entry→(TV→List Entry→Prop)→Prop:=fun tm hp K=>getS [.v (.one (.int .i64)),.v (.pagg [.str,.int .i64,.int .i64,.int .i64,.int .i64,.int .i64,.int .i64,.int .i64,.int .i64,.int .i64,.int .i64,.int .i64,.str,.int .i64,.sl 3])] [] tm hp fun (xx : (Int×((ByteArray×(Int×(Int×(Int×(Int×(Int×(Int×(Int×(Int×(Int×(Int×(Int×(ByteArray×(Int×((LL×Bool)×Unit)))))))))))))))×Unit))) (yy : Unit)=>f44 xx.1 xx.2.1.1 xx.2.1.2.1 xx.2.1.2.2.1 xx.2.1.2.2.2.1 xx.2.1.2.2.2.2.1 xx.2.1.2.2.2.2.2.1 xx.2.1.2.2.2.2.2.2.1 xx.2.1.2.2.2.2.2.2.2.1 xx.2.1.2.2.2.2.2.2.2.2.1 xx.2.1.2.2.2.2.2.2.2.2.2.1 xx.2.1.2.2.2.2.2.2.2.2.2.2.1 xx.2.1.2.2.2.2.2.2.2.2.2.2.2.1 xx.2.1.2.2.2.2.2.2.2.2.2.2.2.2.1 xx.2.1.2.2.2.2.2.2.2.2.2.2.2.2.2.1 xx.2.1.2.2.2.2.2.2.2.2.2.2.2.2.2.2.1.1 xx.2.1.2.2.2.2.2.2.2.2.2.2.2.2.2.2.1.2 (fun b0_0=>K (B b0_0) [])
theorem f44_eq (n_1 : Int) (s_2 : ByteArray) (n_3 n_4 : Int) (n_5 n_6 : Int) (n_7 n_8 : Int) (n_9 n_10 : Int) (n_11 n_12 n_13 : Int) (s_14 : ByteArray) (n_15 : Int) (es_16 : LL) (full_17 : Bool) (K : TV→List Entry→Prop) : (f44_d n_1 s_2 n_3 n_4 n_5 n_6 n_7 n_8 n_9 n_10 n_11 n_12 n_13 s_14 n_15 es_16 full_17 (fun b0_0=>K (B b0_0) [])) = funcT f44_C Tryz.f44 [I n_1,.w (.pagg [pS s_2,pI n_3,pI n_4,pI n_5,pI n_6,pI n_7,pI n_8,pI n_9,pI n_10,pI n_11,pI n_12,pI n_13,pS s_14,pI n_15,.sl 3 es_16 full_17])] [] K:=by kernel_rfl
set_option maxHeartbeats 4000000 in
theorem f44_ok0 : FnOk Tryz.prog glob 44 f44_G0:=by
  refine FnOk.of_text (C:=f44_C) tab_ok.ok (Known.none) follows_ok (fn:=Tryz.f44) (by kernel_rfl) (by kernel_rfl) (by kernel_rfl) (fun c hc=>?_) fun tm hp K h=>?_
  · have e : c = bodyOf Tryz.f44:=Option.some.inj (hc.symm.trans (by kernel_rfl))
    subst e
    exact ⟨LoopsOk.of [] (by kernel_rfl) trivial,TailsOk.of (tab:=f44_tab) rfl [] (by kernel_rfl) trivial⟩
  · unfold f44_G0 at h
    obtain ⟨xx,yy,rfl,rfl,h⟩:=getS_elim h
    have e:=(f44_eq xx.1 xx.2.1.1 xx.2.1.2.1 xx.2.1.2.2.1 xx.2.1.2.2.2.1 xx.2.1.2.2.2.2.1 xx.2.1.2.2.2.2.2.1 xx.2.1.2.2.2.2.2.2.1 xx.2.1.2.2.2.2.2.2.2.1 xx.2.1.2.2.2.2.2.2.2.2.1 xx.2.1.2.2.2.2.2.2.2.2.2.1 xx.2.1.2.2.2.2.2.2.2.2.2.2.1 xx.2.1.2.2.2.2.2.2.2.2.2.2.2.1 xx.2.1.2.2.2.2.2.2.2.2.2.2.2.2.1 xx.2.1.2.2.2.2.2.2.2.2.2.2.2.2.2.1 xx.2.1.2.2.2.2.2.2.2.2.2.2.2.2.2.2.1.1 xx.2.1.2.2.2.2.2.2.2.2.2.2.2.2.2.2.1.2 K).trans (show _ = funcT f44_C Tryz.f44 (mkR _ xx) (mkE _ yy) K by kernel_rfl)
    rw [← e]
    exact h.run
abbrev f44_G:=f44_G0
theorem f44_G_ok : FnOk Tryz.prog glob 44 f44_G:=f44_ok0
def f40_3_p4b0 (n4 : Int) (es5 : LL) (full6 : Bool) (n7 n8 : Int) (N0 : Int→Prop) (k0 : Unit→Prop) (k1 : Unit→Prop) : Prop:=bB (decide (n8 < n7)) ((0≤n8∧n8 < (es5.length : Int))∧cS (ext (List.getD es5 (Int.toNat n8) []) 0 15) fun s10 r9=>cI .i64 r9 fun n12 r11=>cI .i64 r11 fun n14 r13=>cI .i64 r13 fun n16 r15=>cI .i64 r15 fun n18 r17=>cI .i64 r17 fun n20 r19=>cI .i64 r19 fun n22 r21=>cI .i64 r21 fun n24 r23=>cI .i64 r23 fun n26 r25=>cI .i64 r25 fun n28 r27=>cI .i64 r27 fun n30 r29=>cI .i64 r29 fun n32 r31=>cS r31 fun s34 r33=>cI .i64 r33 fun n36 r35=>cL 3 r35 fun es38 full39 r37=>nilC r37 <| f44 n8 s10 n12 n14 n16 n18 n20 n22 n24 n26 n28 n30 n32 s34 n36 es38 full39 (fun b40=>bB b40 (k0 ()) (N0 (w64 (n8 + 1))))) (k1 ())
def f40_3_p4 (n4 : Int) (es5 : LL) (full6 : Bool) (n7 : Int) (k0 : Unit→Prop) (k1 : Unit→Prop) : Int→Prop:=LoopP fun x N=>f40_3_p4b0 n4 es5 full6 n7 x (fun n8=>N n8) k0 k1
def f40_3_d (es1 : LL) (full2 : Bool) (n3 : Int) (k0 : Int→Prop) : Prop:=f40_3_p4 n3 es1 full2 (es1.length : Int) (fun (_ : Unit)=>k0 n3) (fun (_ : Unit)=>k0 0) 0
structure f40_3 (es1 : LL) (full2 : Bool) (n3 : Int) (k0 : Int→Prop) : Prop where
  run : f40_3_d es1 full2 n3 k0
def f40_3_p4L : Told:=fun s K=>match s with
  | ⟨tm,hp⟩=>getS [.skip 1,.v (.one (.int .i64)),.v (.one (.fn 44)),.skip 6,.v (.one (.sl 15)),.v (.one (.int .i64)),.v (.one (.int .i64)),.skip 10] [] tm hp fun (xx : (Unit×(Int×(Unit×(Unit×((LL×Bool)×(Int×(Int×(Unit×Unit))))))))) (yy : Unit)=>f40_3_p4 xx.2.1 xx.2.2.2.2.1.1 xx.2.2.2.2.1.2 xx.2.2.2.2.2.1 (fun (_ : Unit)=>K .ret ⟨mkS 22 [(6,I xx.2.1)],[]⟩) (fun (_ : Unit)=>K (.exit 0) ⟨mkS 22 [],[]⟩) xx.2.2.2.2.2.2.1
def f40_3_tab : List (Nat×Told):=[(4,f40_3_p4L)]
def f40_3_call : FuncId→List TV→List Entry→(TV→List Entry→Prop)→Prop:=addCall 44 f44_G (noCalls)
def f40_3_C : Ctx:=mkC [(4,[(0,[1,2,9,10,11]),(2,[6]),(3,[])])] [] [] [] [] false 0 true (lookL f40_3_tab) f40_3_call
def f40_3_p4_mk (n4 : Int) (es5 : LL) (full6 : Bool) (n7 x : Int) : St:=⟨mkS 22 [(1,I n4),(2,.w (.one (.p (.c (.func (.func 44) #[] #[]))))),(9,.w (.one (.p (.sl 15 es5 full6)))),(10,I n7),(11,I x)],[]⟩
theorem f40_3_p4e0 (n_6 : Int) (es_7 : LL) (full_8 : Bool) (n_9 n_10 : Int) (N : St→Prop) (K : TExit→St→Prop) : (f40_3_p4b0 n_6 es_7 full_8 n_9 n_10 (fun z4=>N (f40_3_p4_mk n_6 es_7 full_8 n_9 z4)) (fun (_ : Unit)=>K .ret ⟨mkS 22 [(6,I n_6)],[]⟩) (fun (_ : Unit)=>K (.exit 0) ⟨mkS 22 [],[]⟩)) = execT f40_3_C (bd Tryz.f40 0) (f40_3_p4_mk n_6 es_7 full_8 n_9 n_10) (loopK N (normK f40_3_C 4) fun e s=>K e (normOut f40_3_C 4 e s)):=by kernel_rfl
set_option maxHeartbeats 4000000 in
theorem f40_3_p4_ok : LoopOk f40_3_C (bd Tryz.f40 0):=by
  refine LoopOk.of f40_3_p4L (by kernel_rfl) fun σ K h=>?_
  have hk : loopKey (bd Tryz.f40 0) = 4:=by kernel_rfl
  rw [hk] at h ⊢
  generalize hs : normK f40_3_C 4 σ = s at h
  obtain ⟨tm,hp⟩:=s
  unfold f40_3_p4L at h
  dsimp only at h
  obtain ⟨xx,yy,rfl,rfl,h⟩:=getS_elim h
  refine iter_of (f40_3_p4_mk xx.2.1 xx.2.2.2.2.1.1 xx.2.2.2.2.1.2 xx.2.2.2.2.2.1) (fun x N h=>?_) rounds _ σ (hs.trans (by kernel_rfl)) (LoopP.run h)
  rw [← f40_3_p4e0 xx.2.1 xx.2.2.2.2.1.1 xx.2.2.2.2.1.2 xx.2.2.2.2.2.1 x N K]
  exact h
def f40_3_G0 : List TV→List Entry→(TV→List Entry→Prop)→Prop:=fun tm hp K=>getS [.v (.one (.sl 15)),.v (.one (.int .i64)),.v (.one (.fn 44))] [] tm hp fun (xx : ((LL×Bool)×(Int×(Unit×Unit)))) (yy : Unit)=>f40_3 xx.1.1 xx.1.2 xx.2.1 (fun n0_0=>K (I n0_0) [])
theorem f40_3_eq (es_11 : LL) (full_12 : Bool) (n_13 : Int) (K : TV→List Entry→Prop) : (f40_3_d es_11 full_12 n_13 (fun n0_0=>K (I n0_0) [])) = funcT f40_3_C Tryz.f40 [.w (.one (.p (.sl 15 es_11 full_12))),I n_13,.w (.one (.p (.c (.func (.func 44) #[] #[]))))] [] K:=by kernel_rfl
set_option maxHeartbeats 4000000 in
theorem f40_3_ok0 : FnOk Tryz.prog glob 40 f40_3_G0:=by
  refine FnOk.of_text (C:=f40_3_C) tab_ok.ok (Known.add f44_G_ok (Known.none)) follows_ok (fn:=Tryz.f40) (by kernel_rfl) (by kernel_rfl) (by kernel_rfl) (fun c hc=>?_) fun tm hp K h=>?_
  · have e : c = bodyOf Tryz.f40:=Option.some.inj (hc.symm.trans (by kernel_rfl))
    subst e
    exact ⟨LoopsOk.of [bd Tryz.f40 0] (by kernel_rfl) ⟨f40_3_p4_ok,trivial⟩,TailsOk.of (tab:=f40_3_tab) rfl [] (by kernel_rfl) trivial⟩
  · unfold f40_3_G0 at h
    obtain ⟨xx,yy,rfl,rfl,h⟩:=getS_elim h
    have e:=(f40_3_eq xx.1.1 xx.1.2 xx.2.1 K).trans (show _ = funcT f40_3_C Tryz.f40 (mkR _ xx) (mkE _ yy) K by kernel_rfl)
    rw [← e]
    exact h.run
def f40_3_G : List TV→List Entry→(TV→List Entry→Prop)→Prop:=fun args H K=>bif isSig (sigOf args H) [5,2,1044,7] then f40_3_G0 args H K else f40_2_G args H K
theorem f40_3_G_ok : FnOk Tryz.prog glob 40 f40_3_G:=FnOk.or _ f40_3_ok0 f40_2_G_ok
def f46_p4b0 (s4 : ByteArray) (es5 : LL) (full6 : Bool) (n7 n8 : Int) (s9 : ByteArray) (N0 : Int→Prop) (k0 : Bool→ByteArray→(LL)→Bool→Prop) (k1 : Unit→Prop) : Prop:=bB (decide (n8 < n7)) ((0≤n8∧n8 < (es5.length : Int))∧cS (ext (List.getD es5 (Int.toNat n8) []) 0 2) fun s11 r10=>cL 11 r10 fun es13 full14 r12=>nilC r12 <| bB (s11.toList == s4.toList) (k0 true s11 es13 full14) (N0 (w64 (n8 + 1)))) (k1 ())
def f46_p4 (s4 : ByteArray) (es5 : LL) (full6 : Bool) (n7 : Int) (s9 : ByteArray) (k0 : Bool→ByteArray→(LL)→Bool→Prop) (k1 : Unit→Prop) : Int→Prop:=LoopP fun x N=>f46_p4b0 s4 es5 full6 n7 x s9 (fun n8=>N n8) k0 k1
def f46_d (es1 : LL) (full2 : Bool) (s3 : ByteArray) (k0 : ByteArray→(LL)→Bool→Bool→Prop) : Prop:=f46_p4 s3 es1 full2 (es1.length : Int) (⟨#[]⟩ : ByteArray) (fun b15 s16 es17 full18=>k0 s16 es17 full18 b15) (fun (_ : Unit)=>k0 (⟨#[]⟩ : ByteArray) [] true false) 0
structure f46 (es1 : LL) (full2 : Bool) (s3 : ByteArray) (k0 : ByteArray→(LL)→Bool→Bool→Prop) : Prop where
  run : f46_d es1 full2 s3 k0
def f46_p4L : Told:=fun s K=>match s with
  | ⟨tm,hp⟩=>getS [.skip 1,.v (.one (.str)),.skip 2,.v (.one (.ptr 0 0 0)),.skip 3,.v (.one (.sl 2)),.v (.one (.int .i64)),.v (.one (.int .i64)),.skip 10] [.box [.str,.nil 11]] tm hp fun (xx : (Unit×(ByteArray×(Unit×(Unit×(Unit×((LL×Bool)×(Int×(Int×(Unit×Unit)))))))))) (yy : ((ByteArray×(Unit×Unit))×Unit))=>f46_p4 xx.2.1 xx.2.2.2.2.2.1.1 xx.2.2.2.2.2.1.2 xx.2.2.2.2.2.2.1 yy.1.1 (fun b0_0 s0_1 es0_2 full0_3=>K .ret ⟨mkS 21 [(4,.w (.one (.ptr 0 0 0))),(5,B b0_0)],[.box [.p (pS s0_1),.p (.sl 11 es0_2 full0_3)]]⟩) (fun (_ : Unit)=>K (.exit 0) ⟨mkS 21 [(4,.w (.one (.ptr 0 0 0)))],[.box [.p (pS yy.1.1),.p (.sl 11 [] true)]]⟩) xx.2.2.2.2.2.2.2.1
def f46_tab : List (Nat×Told):=[(4,f46_p4L)]
def f46_call : FuncId→List TV→List Entry→(TV→List Entry→Prop)→Prop:=noCalls
def f46_C : Ctx:=mkC [(4,[(0,[1,4,8,9,10]),(2,[4,5]),(3,[4])])] [] [] [] [] false 0 true (lookL f46_tab) f46_call
def f46_p4_mk (s4 : ByteArray) (es5 : LL) (full6 : Bool) (n7 : Int) (s9 : ByteArray) (x : Int) : St:=⟨mkS 21 [(1,S s4),(4,.w (.one (.ptr 0 0 0))),(8,.w (.one (.p (.sl 2 es5 full6)))),(9,I n7),(10,I x)],[.box [.p (pS s9),.p (.sl 11 [] true)]]⟩
theorem f46_p4e0 (s_14 : ByteArray) (es_15 : LL) (full_16 : Bool) (n_17 n_18 : Int) (s_19 : ByteArray) (N : St→Prop) (K : TExit→St→Prop) : (f46_p4b0 s_14 es_15 full_16 n_17 n_18 s_19 (fun z4=>N (f46_p4_mk s_14 es_15 full_16 n_17 s_19 z4)) (fun b0_20 s0_21 es0_22 full0_23=>K .ret ⟨mkS 21 [(4,.w (.one (.ptr 0 0 0))),(5,B b0_20)],[.box [.p (pS s0_21),.p (.sl 11 es0_22 full0_23)]]⟩) (fun (_ : Unit)=>K (.exit 0) ⟨mkS 21 [(4,.w (.one (.ptr 0 0 0)))],[.box [.p (pS s_19),.p (.sl 11 [] true)]]⟩)) = execT f46_C (bd Tryz.f46 0) (f46_p4_mk s_14 es_15 full_16 n_17 s_19 n_18) (loopK N (normK f46_C 4) fun e s=>K e (normOut f46_C 4 e s)):=by kernel_rfl
set_option maxHeartbeats 4000000 in
theorem f46_p4_ok : LoopOk f46_C (bd Tryz.f46 0):=by
  refine LoopOk.of f46_p4L (by kernel_rfl) fun σ K h=>?_
  have hk : loopKey (bd Tryz.f46 0) = 4:=by kernel_rfl
  rw [hk] at h ⊢
  generalize hs : normK f46_C 4 σ = s at h
  obtain ⟨tm,hp⟩:=s
  unfold f46_p4L at h
  dsimp only at h
  obtain ⟨xx,yy,rfl,rfl,h⟩:=getS_elim h
  refine iter_of (f46_p4_mk xx.2.1 xx.2.2.2.2.2.1.1 xx.2.2.2.2.2.1.2 xx.2.2.2.2.2.2.1 yy.1.1) (fun x N h=>?_) rounds _ σ (hs.trans (by kernel_rfl)) (LoopP.run h)
  rw [← f46_p4e0 xx.2.1 xx.2.2.2.2.2.1.1 xx.2.2.2.2.2.1.2 xx.2.2.2.2.2.2.1 x yy.1.1 N K]
  exact h
def f46_G0 : List TV→List Entry→(TV→List Entry→Prop)→Prop:=fun tm hp K=>getS [.v (.one (.sl 2)),.v (.one (.str))] [] tm hp fun (xx : ((LL×Bool)×(ByteArray×Unit))) (yy : Unit)=>f46 xx.1.1 xx.1.2 xx.2.1 (fun s0_4 es0_5 full0_6 b0_7=>K (.tup [.pagg [pS s0_4,.sl 11 es0_5 full0_6],.one (.p (pB b0_7))]) [])
theorem f46_eq (es_24 : LL) (full_25 : Bool) (s_26 : ByteArray) (K : TV→List Entry→Prop) : (f46_d es_24 full_25 s_26 (fun s0_4 es0_5 full0_6 b0_7=>K (.tup [.pagg [pS s0_4,.sl 11 es0_5 full0_6],.one (.p (pB b0_7))]) [])) = funcT f46_C Tryz.f46 [.w (.one (.p (.sl 2 es_24 full_25))),S s_26] [] K:=by kernel_rfl
set_option maxHeartbeats 4000000 in
theorem f46_ok0 : FnOk Tryz.prog glob 46 f46_G0:=by
  refine FnOk.of_text (C:=f46_C) tab_ok.ok (Known.none) follows_ok (fn:=Tryz.f46) (by kernel_rfl) (by kernel_rfl) (by kernel_rfl) (fun c hc=>?_) fun tm hp K h=>?_
  · have e : c = bodyOf Tryz.f46:=Option.some.inj (hc.symm.trans (by kernel_rfl))
    subst e
    exact ⟨LoopsOk.of [bd Tryz.f46 0] (by kernel_rfl) ⟨f46_p4_ok,trivial⟩,TailsOk.of (tab:=f46_tab) rfl [] (by kernel_rfl) trivial⟩
  · unfold f46_G0 at h
    obtain ⟨xx,yy,rfl,rfl,h⟩:=getS_elim h
    have e:=(f46_eq xx.1.1 xx.1.2 xx.2.1 K).trans (show _ = funcT f46_C Tryz.f46 (mkR _ xx) (mkE _ yy) K by kernel_rfl)
    rw [← e]
    exact h.run
abbrev f46_G:=f46_G0
theorem f46_G_ok : FnOk Tryz.prog glob 46 f46_G:=f46_ok0
def f45_d (n1 : Int) (s2 : ByteArray) (n3 n4 : Int) (n5 n6 : Int) (n7 n8 : Int) (n9 n10 : Int) (n11 n12 n13 : Int) (s14 : ByteArray) (n15 : Int) (es16 : LL) (full17 : Bool) (es18 : LL) (full19 : Bool) (k0 : Bool→(LL)→Bool→Prop) : Prop:=f46 es18 full19 s14 (fun s20 es21 full22 b23=>bB (!(s14.toList == (⟨#[]⟩ : ByteArray).toList)) (k0 (!b23) es18 full19) (k0 false es18 full19))
structure f45 (n1 : Int) (s2 : ByteArray) (n3 n4 : Int) (n5 n6 : Int) (n7 n8 : Int) (n9 n10 : Int) (n11 n12 n13 : Int) (s14 : ByteArray) (n15 : Int) (es16 : LL) (full17 : Bool) (es18 : LL) (full19 : Bool) (k0 : Bool→(LL)→Bool→Prop) : Prop where
  run : f45_d n1 s2 n3 n4 n5 n6 n7 n8 n9 n10 n11 n12 n13 s14 n15 es16 full17 es18 full19 k0
def f45_tab : List (Nat×Told):=[]
def f45_call : FuncId→List TV→List Entry→(TV→List Entry→Prop)→Prop:=addCall 46 f46_G (noCalls)
def f45_C : Ctx:=mkC [] [] [] [] [] false 1 true (lookL f45_tab) f45_call
def f45_G0 : List TV→List Entry→(TV→List Entry→Prop)→Prop:=fun tm hp K=>getS [.v (.one (.int .i64)),.v (.pagg [.str,.int .i64,.int .i64,.int .i64,.int .i64,.int .i64,.int .i64,.int .i64,.int .i64,.int .i64,.int .i64,.int .i64,.str,.int .i64,.sl 3]),.v (.one (.ptr 0 0 0))] [.box [.sl 2]] tm hp fun (xx : (Int×((ByteArray×(Int×(Int×(Int×(Int×(Int×(Int×(Int×(Int×(Int×(Int×(Int×(ByteArray×(Int×((LL×Bool)×Unit)))))))))))))))×(Unit×Unit)))) (yy : (((LL×Bool)×Unit)×Unit))=>f45 xx.1 xx.2.1.1 xx.2.1.2.1 xx.2.1.2.2.1 xx.2.1.2.2.2.1 xx.2.1.2.2.2.2.1 xx.2.1.2.2.2.2.2.1 xx.2.1.2.2.2.2.2.2.1 xx.2.1.2.2.2.2.2.2.2.1 xx.2.1.2.2.2.2.2.2.2.2.1 xx.2.1.2.2.2.2.2.2.2.2.2.1 xx.2.1.2.2.2.2.2.2.2.2.2.2.1 xx.2.1.2.2.2.2.2.2.2.2.2.2.2.1 xx.2.1.2.2.2.2.2.2.2.2.2.2.2.2.1 xx.2.1.2.2.2.2.2.2.2.2.2.2.2.2.2.1 xx.2.1.2.2.2.2.2.2.2.2.2.2.2.2.2.2.1.1 xx.2.1.2.2.2.2.2.2.2.2.2.2.2.2.2.2.1.2 yy.1.1.1 yy.1.1.2 (fun b0_0 es0_1 full0_2=>K (B b0_0) [.box [.p (.sl 2 es0_1 full0_2)]])
theorem f45_eq (n_3 : Int) (s_4 : ByteArray) (n_5 n_6 : Int) (n_7 n_8 : Int) (n_9 n_10 : Int) (n_11 n_12 : Int) (n_13 n_14 n_15 : Int) (s_16 : ByteArray) (n_17 : Int) (es_18 : LL) (full_19 : Bool) (es_20 : LL) (full_21 : Bool) (K : TV→List Entry→Prop) : (f45_d n_3 s_4 n_5 n_6 n_7 n_8 n_9 n_10 n_11 n_12 n_13 n_14 n_15 s_16 n_17 es_18 full_19 es_20 full_21 (fun b0_0 es0_1 full0_2=>K (B b0_0) [.box [.p (.sl 2 es0_1 full0_2)]])) = funcT f45_C Tryz.f45 [I n_3,.w (.pagg [pS s_4,pI n_5,pI n_6,pI n_7,pI n_8,pI n_9,pI n_10,pI n_11,pI n_12,pI n_13,pI n_14,pI n_15,pS s_16,pI n_17,.sl 3 es_18 full_19]),.w (.one (.ptr 0 0 0))] [.box [.p (.sl 2 es_20 full_21)]] K:=by kernel_rfl
set_option maxHeartbeats 4000000 in
theorem f45_ok0 : FnOk Tryz.prog glob 45 f45_G0:=by
  refine FnOk.of_text (C:=f45_C) tab_ok.ok (Known.add f46_G_ok (Known.none)) follows_ok (fn:=Tryz.f45) (by kernel_rfl) (by kernel_rfl) (by kernel_rfl) (fun c hc=>?_) fun tm hp K h=>?_
  · have e : c = bodyOf Tryz.f45:=Option.some.inj (hc.symm.trans (by kernel_rfl))
    subst e
    exact ⟨LoopsOk.of [] (by kernel_rfl) trivial,TailsOk.of (tab:=f45_tab) rfl [] (by kernel_rfl) trivial⟩
  · unfold f45_G0 at h
    obtain ⟨xx,yy,rfl,rfl,h⟩:=getS_elim h
    have e:=(f45_eq xx.1 xx.2.1.1 xx.2.1.2.1 xx.2.1.2.2.1 xx.2.1.2.2.2.1 xx.2.1.2.2.2.2.1 xx.2.1.2.2.2.2.2.1 xx.2.1.2.2.2.2.2.2.1 xx.2.1.2.2.2.2.2.2.2.1 xx.2.1.2.2.2.2.2.2.2.2.1 xx.2.1.2.2.2.2.2.2.2.2.2.1 xx.2.1.2.2.2.2.2.2.2.2.2.2.1 xx.2.1.2.2.2.2.2.2.2.2.2.2.2.1 xx.2.1.2.2.2.2.2.2.2.2.2.2.2.2.1 xx.2.1.2.2.2.2.2.2.2.2.2.2.2.2.2.1 xx.2.1.2.2.2.2.2.2.2.2.2.2.2.2.2.2.1.1 xx.2.1.2.2.2.2.2.2.2.2.2.2.2.2.2.2.1.2 yy.1.1.1 yy.1.1.2 K).trans (show _ = funcT f45_C Tryz.f45 (mkR _ xx) (mkE _ yy) K by kernel_rfl)
    rw [← e]
    exact h.run
abbrev f45_G:=f45_G0
theorem f45_G_ok : FnOk Tryz.prog glob 45 f45_G:=f45_ok0
def f40_4_p4b0 (n6 : Int) (es7 : LL) (full8 : Bool) (n9 n10 : Int) (es11 : LL) (full12 : Bool) (N0 : Int→(LL)→Bool→Prop) (k0 : (LL)→Bool→Prop) (k1 : (LL)→Bool→Prop) : Prop:=bB (decide (n10 < n9)) ((0≤n10∧n10 < (es7.length : Int))∧cS (ext (List.getD es7 (Int.toNat n10) []) 0 15) fun s14 r13=>cI .i64 r13 fun n16 r15=>cI .i64 r15 fun n18 r17=>cI .i64 r17 fun n20 r19=>cI .i64 r19 fun n22 r21=>cI .i64 r21 fun n24 r23=>cI .i64 r23 fun n26 r25=>cI .i64 r25 fun n28 r27=>cI .i64 r27 fun n30 r29=>cI .i64 r29 fun n32 r31=>cI .i64 r31 fun n34 r33=>cI .i64 r33 fun n36 r35=>cS r35 fun s38 r37=>cI .i64 r37 fun n40 r39=>cL 3 r39 fun es42 full43 r41=>nilC r41 <| f45 n10 s14 n16 n18 n20 n22 n24 n26 n28 n30 n32 n34 n36 s38 n40 es42 full43 es11 full12 (fun b44 es45 full46=>bB b44 (k0 es45 full46) (N0 (w64 (n10 + 1)) es45 full46))) (k1 es11 full12)
def f40_4_p4 (n6 : Int) (es7 : LL) (full8 : Bool) (n9 : Int) (k0 : (LL)→Bool→Prop) (k1 : (LL)→Bool→Prop) : Int×(LL)×Bool→Prop:=LoopP fun x N=>f40_4_p4b0 n6 es7 full8 n9 x.1 x.2.1 x.2.2 (fun n10 es11 full12=>N (n10,es11,full12)) k0 k1
def f40_4_d (es1 : LL) (full2 : Bool) (n3 : Int) (es4 : LL) (full5 : Bool) (k0 : Int→(LL)→Bool→Prop) : Prop:=f40_4_p4 n3 es1 full2 (es1.length : Int) (fun es47 full48=>k0 n3 es47 full48) (fun es49 full50=>k0 0 es49 full50) (0,es4,full5)
structure f40_4 (es1 : LL) (full2 : Bool) (n3 : Int) (es4 : LL) (full5 : Bool) (k0 : Int→(LL)→Bool→Prop) : Prop where
  run : f40_4_d es1 full2 n3 es4 full5 k0
def f40_4_p4L : Told:=fun s K=>match s with
  | ⟨tm,hp⟩=>getS [.skip 1,.v (.one (.int .i64)),.v (.clo 45 [] [.ptr 0 0 0]),.skip 6,.v (.one (.sl 15)),.v (.one (.int .i64)),.v (.one (.int .i64)),.skip 10] [.box [.sl 2]] tm hp fun (xx : (Unit×(Int×((Unit×(Unit×Unit))×(Unit×((LL×Bool)×(Int×(Int×(Unit×Unit))))))))) (yy : (((LL×Bool)×Unit)×Unit))=>f40_4_p4 xx.2.1 xx.2.2.2.2.1.1 xx.2.2.2.2.1.2 xx.2.2.2.2.2.1 (fun es0_0 full0_1=>K .ret ⟨mkS 22 [(6,I xx.2.1)],[.box [.p (.sl 2 es0_0 full0_1)]]⟩) (fun es1_2 full1_3=>K (.exit 0) ⟨mkS 22 [],[.box [.p (.sl 2 es1_2 full1_3)]]⟩) (xx.2.2.2.2.2.2.1,yy.1.1.1,yy.1.1.2)
def f40_4_tab : List (Nat×Told):=[(4,f40_4_p4L)]
def f40_4_call : FuncId→List TV→List Entry→(TV→List Entry→Prop)→Prop:=addCall 45 f45_G (noCalls)
def f40_4_C : Ctx:=mkC [(4,[(0,[1,2,9,10,11]),(2,[6]),(3,[])])] [] [] [] [] false 1 true (lookL f40_4_tab) f40_4_call
def f40_4_p4_mk (n6 : Int) (es7 : LL) (full8 : Bool) (n9 : Int) (x : Int×(LL)×Bool) : St:=⟨mkS 22 [(1,I n6),(2,.w (.one (.clo 45 [] [.ptr 0 0 0]))),(9,.w (.one (.p (.sl 15 es7 full8)))),(10,I n9),(11,I x.1)],[.box [.p (.sl 2 x.2.1 x.2.2)]]⟩
theorem f40_4_p4e0 (n_14 : Int) (es_15 : LL) (full_16 : Bool) (n_17 n_18 : Int) (es_19 : LL) (full_20 : Bool) (N : St→Prop) (K : TExit→St→Prop) : (f40_4_p4b0 n_14 es_15 full_16 n_17 n_18 es_19 full_20 (fun z4 z5 z6=>N (f40_4_p4_mk n_14 es_15 full_16 n_17 (z4,z5,z6))) (fun es0_21 full0_22=>K .ret ⟨mkS 22 [(6,I n_14)],[.box [.p (.sl 2 es0_21 full0_22)]]⟩) (fun es1_23 full1_24=>K (.exit 0) ⟨mkS 22 [],[.box [.p (.sl 2 es1_23 full1_24)]]⟩)) = execT f40_4_C (bd Tryz.f40 0) (f40_4_p4_mk n_14 es_15 full_16 n_17 (n_18,es_19,full_20)) (loopK N (normK f40_4_C 4) fun e s=>K e (normOut f40_4_C 4 e s)):=by kernel_rfl
set_option maxHeartbeats 4000000 in
theorem f40_4_p4_ok : LoopOk f40_4_C (bd Tryz.f40 0):=by
  refine LoopOk.of f40_4_p4L (by kernel_rfl) fun σ K h=>?_
  have hk : loopKey (bd Tryz.f40 0) = 4:=by kernel_rfl
  rw [hk] at h ⊢
  generalize hs : normK f40_4_C 4 σ = s at h
  obtain ⟨tm,hp⟩:=s
  unfold f40_4_p4L at h
  dsimp only at h
  obtain ⟨xx,yy,rfl,rfl,h⟩:=getS_elim h
  refine iter_of (f40_4_p4_mk xx.2.1 xx.2.2.2.2.1.1 xx.2.2.2.2.1.2 xx.2.2.2.2.2.1) (fun x N h=>?_) rounds _ σ (hs.trans (by kernel_rfl)) (LoopP.run h)
  obtain ⟨y0,y1,y2⟩:=x
  rw [← f40_4_p4e0 xx.2.1 xx.2.2.2.2.1.1 xx.2.2.2.2.1.2 xx.2.2.2.2.2.1 y0 y1 y2 N K]
  exact h
def f40_4_G0 : List TV→List Entry→(TV→List Entry→Prop)→Prop:=fun tm hp K=>getS [.v (.one (.sl 15)),.v (.one (.int .i64)),.v (.clo 45 [] [.ptr 0 0 0])] [.box [.sl 2]] tm hp fun (xx : ((LL×Bool)×(Int×((Unit×(Unit×Unit))×Unit)))) (yy : (((LL×Bool)×Unit)×Unit))=>f40_4 xx.1.1 xx.1.2 xx.2.1 yy.1.1.1 yy.1.1.2 (fun n0_4 es0_5 full0_6=>K (I n0_4) [.box [.p (.sl 2 es0_5 full0_6)]])
theorem f40_4_eq (es_25 : LL) (full_26 : Bool) (n_27 : Int) (es_28 : LL) (full_29 : Bool) (K : TV→List Entry→Prop) : (f40_4_d es_25 full_26 n_27 es_28 full_29 (fun n0_4 es0_5 full0_6=>K (I n0_4) [.box [.p (.sl 2 es0_5 full0_6)]])) = funcT f40_4_C Tryz.f40 [.w (.one (.p (.sl 15 es_25 full_26))),I n_27,.w (.one (.clo 45 [] [.ptr 0 0 0]))] [.box [.p (.sl 2 es_28 full_29)]] K:=by kernel_rfl
set_option maxHeartbeats 4000000 in
theorem f40_4_ok0 : FnOk Tryz.prog glob 40 f40_4_G0:=by
  refine FnOk.of_text (C:=f40_4_C) tab_ok.ok (Known.add f45_G_ok (Known.none)) follows_ok (fn:=Tryz.f40) (by kernel_rfl) (by kernel_rfl) (by kernel_rfl) (fun c hc=>?_) fun tm hp K h=>?_
  · have e : c = bodyOf Tryz.f40:=Option.some.inj (hc.symm.trans (by kernel_rfl))
    subst e
    exact ⟨LoopsOk.of [bd Tryz.f40 0] (by kernel_rfl) ⟨f40_4_p4_ok,trivial⟩,TailsOk.of (tab:=f40_4_tab) rfl [] (by kernel_rfl) trivial⟩
  · unfold f40_4_G0 at h
    obtain ⟨xx,yy,rfl,rfl,h⟩:=getS_elim h
    have e:=(f40_4_eq xx.1.1 xx.1.2 xx.2.1 yy.1.1.1 yy.1.1.2 K).trans (show _ = funcT f40_4_C Tryz.f40 (mkR _ xx) (mkE _ yy) K by kernel_rfl)
    rw [← e]
    exact h.run
def f40_4_G : List TV→List Entry→(TV→List Entry→Prop)→Prop:=fun args H K=>bif isSig (sigOf args H) [5,2,100045,7,20,5] then f40_4_G0 args H K else f40_3_G args H K
theorem f40_4_G_ok : FnOk Tryz.prog glob 40 f40_4_G:=FnOk.or _ f40_4_ok0 f40_3_G_ok
def f49_d (n1 n2 n3 : Int) (k0 : Bool→Prop) : Prop:=bB (decide (n1 < 0)) (k0 true) (k0 (decide (n1≥1440)))
structure f49 (n1 n2 n3 : Int) (k0 : Bool→Prop) : Prop where
  run : f49_d n1 n2 n3 k0
def f49_tab : List (Nat×Told):=[]
def f49_call : FuncId→List TV→List Entry→(TV→List Entry→Prop)→Prop:=noCalls
def f49_C : Ctx:=mkC [] [] [] [] [] false 0 true (lookL f49_tab) f49_call
def f49_G0 : List TV→List Entry→(TV→List Entry→Prop)→Prop:=fun tm hp K=>getS [.v (.pagg [.int .i64,.int .i64,.int .i64])] [] tm hp fun (xx : ((Int×(Int×(Int×Unit)))×Unit)) (yy : Unit)=>f49 xx.1.1 xx.1.2.1 xx.1.2.2.1 (fun b0_0=>K (B b0_0) [])
theorem f49_eq (n_1 n_2 n_3 : Int) (K : TV→List Entry→Prop) : (f49_d n_1 n_2 n_3 (fun b0_0=>K (B b0_0) [])) = funcT f49_C Tryz.f49 [.w (.pagg [pI n_1,pI n_2,pI n_3])] [] K:=by kernel_rfl
set_option maxHeartbeats 4000000 in
theorem f49_ok0 : FnOk Tryz.prog glob 49 f49_G0:=by
  refine FnOk.of_text (C:=f49_C) tab_ok.ok (Known.none) follows_ok (fn:=Tryz.f49) (by kernel_rfl) (by kernel_rfl) (by kernel_rfl) (fun c hc=>?_) fun tm hp K h=>?_
  · have e : c = bodyOf Tryz.f49:=Option.some.inj (hc.symm.trans (by kernel_rfl))
    subst e
    exact ⟨LoopsOk.of [] (by kernel_rfl) trivial,TailsOk.of (tab:=f49_tab) rfl [] (by kernel_rfl) trivial⟩
  · unfold f49_G0 at h
    obtain ⟨xx,yy,rfl,rfl,h⟩:=getS_elim h
    have e:=(f49_eq xx.1.1 xx.1.2.1 xx.1.2.2.1 K).trans (show _ = funcT f49_C Tryz.f49 (mkR _ xx) (mkE _ yy) K by kernel_rfl)
    rw [← e]
    exact h.run
abbrev f49_G:=f49_G0
theorem f49_G_ok : FnOk Tryz.prog glob 49 f49_G:=f49_ok0
def f85_p4b0 (es3 : LL) (full4 : Bool) (n5 n6 : Int) (N0 : Int→Prop) (k0 : Int→Prop) (k1 : Unit→Prop) : Prop:=bB (decide (n6 < n5)) ((0≤n6∧n6 < (es3.length : Int))∧cI .i64 (ext (List.getD es3 (Int.toNat n6) []) 0 3) fun n8 r7=>cI .i64 r7 fun n10 r9=>cI .i64 r9 fun n12 r11=>nilC r11 <| f49 n8 n10 n12 (fun b13=>bB b13 (k0 n6) (N0 (w64 (n6 + 1))))) (k1 ())
def f85_p4 (es3 : LL) (full4 : Bool) (n5 : Int) (k0 : Int→Prop) (k1 : Unit→Prop) : Int→Prop:=LoopP fun x N=>f85_p4b0 es3 full4 n5 x (fun n6=>N n6) k0 k1
def f85_d (es1 : LL) (full2 : Bool) (k0 : Int→Prop) : Prop:=f85_p4 es1 full2 (es1.length : Int) k0 (fun (_ : Unit)=>k0 (-1)) 0
structure f85 (es1 : LL) (full2 : Bool) (k0 : Int→Prop) : Prop where
  run : f85_d es1 full2 k0
def f85_p4L : Told:=fun s K=>match s with
  | ⟨tm,hp⟩=>getS [.v (.one (.sl 3)),.v (.one (.fn 49)),.skip 5,.v (.one (.int .i64)),.v (.one (.int .i64)),.skip 10] [] tm hp fun (xx : ((LL×Bool)×(Unit×(Unit×(Int×(Int×(Unit×Unit))))))) (yy : Unit)=>f85_p4 xx.1.1 xx.1.2 xx.2.2.2.1 (fun n0_0=>K .ret ⟨mkS 19 [(4,I n0_0)],[]⟩) (fun (_ : Unit)=>K (.exit 0) ⟨mkS 19 [],[]⟩) xx.2.2.2.2.1
def f85_tab : List (Nat×Told):=[(4,f85_p4L)]
def f85_call : FuncId→List TV→List Entry→(TV→List Entry→Prop)→Prop:=addCall 49 f49_G (noCalls)
def f85_C : Ctx:=mkC [(4,[(0,[0,1,7,8]),(2,[4]),(3,[])])] [] [] [] [] false 0 true (lookL f85_tab) f85_call
def f85_p4_mk (es3 : LL) (full4 : Bool) (n5 x : Int) : St:=⟨mkS 19 [(0,.w (.one (.p (.sl 3 es3 full4)))),(1,.w (.one (.p (.c (.func (.func 49) #[] #[]))))),(7,I n5),(8,I x)],[]⟩
theorem f85_p4e0 (es_6 : LL) (full_7 : Bool) (n_8 n_9 : Int) (N : St→Prop) (K : TExit→St→Prop) : (f85_p4b0 es_6 full_7 n_8 n_9 (fun z3=>N (f85_p4_mk es_6 full_7 n_8 z3)) (fun n0_10=>K .ret ⟨mkS 19 [(4,I n0_10)],[]⟩) (fun (_ : Unit)=>K (.exit 0) ⟨mkS 19 [],[]⟩)) = execT f85_C (bd Tryz.f85 0) (f85_p4_mk es_6 full_7 n_8 n_9) (loopK N (normK f85_C 4) fun e s=>K e (normOut f85_C 4 e s)):=by kernel_rfl
set_option maxHeartbeats 4000000 in
theorem f85_p4_ok : LoopOk f85_C (bd Tryz.f85 0):=by
  refine LoopOk.of f85_p4L (by kernel_rfl) fun σ K h=>?_
  have hk : loopKey (bd Tryz.f85 0) = 4:=by kernel_rfl
  rw [hk] at h ⊢
  generalize hs : normK f85_C 4 σ = s at h
  obtain ⟨tm,hp⟩:=s
  unfold f85_p4L at h
  dsimp only at h
  obtain ⟨xx,yy,rfl,rfl,h⟩:=getS_elim h
  refine iter_of (f85_p4_mk xx.1.1 xx.1.2 xx.2.2.2.1) (fun x N h=>?_) rounds _ σ (hs.trans (by kernel_rfl)) (LoopP.run h)
  rw [← f85_p4e0 xx.1.1 xx.1.2 xx.2.2.2.1 x N K]
  exact h
def f85_G0 : List TV→List Entry→(TV→List Entry→Prop)→Prop:=fun tm hp K=>getS [.v (.one (.sl 3)),.v (.one (.fn 49))] [] tm hp fun (xx : ((LL×Bool)×(Unit×Unit))) (yy : Unit)=>f85 xx.1.1 xx.1.2 (fun n0_1=>K (I n0_1) [])
theorem f85_eq (es_11 : LL) (full_12 : Bool) (K : TV→List Entry→Prop) : (f85_d es_11 full_12 (fun n0_1=>K (I n0_1) [])) = funcT f85_C Tryz.f85 [.w (.one (.p (.sl 3 es_11 full_12))),.w (.one (.p (.c (.func (.func 49) #[] #[]))))] [] K:=by kernel_rfl
set_option maxHeartbeats 4000000 in
theorem f85_ok0 : FnOk Tryz.prog glob 85 f85_G0:=by
  refine FnOk.of_text (C:=f85_C) tab_ok.ok (Known.add f49_G_ok (Known.none)) follows_ok (fn:=Tryz.f85) (by kernel_rfl) (by kernel_rfl) (by kernel_rfl) (fun c hc=>?_) fun tm hp K h=>?_
  · have e : c = bodyOf Tryz.f85:=Option.some.inj (hc.symm.trans (by kernel_rfl))
    subst e
    exact ⟨LoopsOk.of [bd Tryz.f85 0] (by kernel_rfl) ⟨f85_p4_ok,trivial⟩,TailsOk.of (tab:=f85_tab) rfl [] (by kernel_rfl) trivial⟩
  · unfold f85_G0 at h
    obtain ⟨xx,yy,rfl,rfl,h⟩:=getS_elim h
    have e:=(f85_eq xx.1.1 xx.1.2 K).trans (show _ = funcT f85_C Tryz.f85 (mkR _ xx) (mkE _ yy) K by kernel_rfl)
    rw [← e]
    exact h.run
abbrev f85_G:=f85_G0
theorem f85_G_ok : FnOk Tryz.prog glob 85 f85_G:=f85_ok0
def f48_d (es1 : LL) (full2 : Bool) (k0 : Bool→Prop) : Prop:=f85 es1 full2 (fun n3=>k0 (decide (n3≥0)))
structure f48 (es1 : LL) (full2 : Bool) (k0 : Bool→Prop) : Prop where
  run : f48_d es1 full2 k0
def f48_tab : List (Nat×Told):=[]
def f48_call : FuncId→List TV→List Entry→(TV→List Entry→Prop)→Prop:=addCall 85 f85_G (noCalls)
def f48_C : Ctx:=mkC [] [] [] [] [] false 0 true (lookL f48_tab) f48_call
def f48_G0 : List TV→List Entry→(TV→List Entry→Prop)→Prop:=fun tm hp K=>getS [.v (.one (.sl 3)),.v (.one (.fn 49))] [] tm hp fun (xx : ((LL×Bool)×(Unit×Unit))) (yy : Unit)=>f48 xx.1.1 xx.1.2 (fun b0_0=>K (B b0_0) [])
theorem f48_eq (es_1 : LL) (full_2 : Bool) (K : TV→List Entry→Prop) : (f48_d es_1 full_2 (fun b0_0=>K (B b0_0) [])) = funcT f48_C Tryz.f48 [.w (.one (.p (.sl 3 es_1 full_2))),.w (.one (.p (.c (.func (.func 49) #[] #[]))))] [] K:=by kernel_rfl
set_option maxHeartbeats 4000000 in
theorem f48_ok0 : FnOk Tryz.prog glob 48 f48_G0:=by
  refine FnOk.of_text (C:=f48_C) tab_ok.ok (Known.add f85_G_ok (Known.none)) follows_ok (fn:=Tryz.f48) (by kernel_rfl) (by kernel_rfl) (by kernel_rfl) (fun c hc=>?_) fun tm hp K h=>?_
  · have e : c = bodyOf Tryz.f48:=Option.some.inj (hc.symm.trans (by kernel_rfl))
    subst e
    exact ⟨LoopsOk.of [] (by kernel_rfl) trivial,TailsOk.of (tab:=f48_tab) rfl [] (by kernel_rfl) trivial⟩
  · unfold f48_G0 at h
    obtain ⟨xx,yy,rfl,rfl,h⟩:=getS_elim h
    have e:=(f48_eq xx.1.1 xx.1.2 K).trans (show _ = funcT f48_C Tryz.f48 (mkR _ xx) (mkE _ yy) K by kernel_rfl)
    rw [← e]
    exact h.run
abbrev f48_G:=f48_G0
theorem f48_G_ok : FnOk Tryz.prog glob 48 f48_G:=f48_ok0
def f47_d (n1 : Int) (s2 : ByteArray) (n3 n4 : Int) (n5 n6 : Int) (n7 n8 : Int) (n9 n10 : Int) (n11 n12 n13 : Int) (s14 : ByteArray) (n15 : Int) (es16 : LL) (full17 : Bool) (k0 : Bool→Prop) : Prop:=bB (decide (n15 < 1)) (k0 true) (bB (decide (n15 > 16)) (k0 true) (f48 es16 full17 k0))
structure f47 (n1 : Int) (s2 : ByteArray) (n3 n4 : Int) (n5 n6 : Int) (n7 n8 : Int) (n9 n10 : Int) (n11 n12 n13 : Int) (s14 : ByteArray) (n15 : Int) (es16 : LL) (full17 : Bool) (k0 : Bool→Prop) : Prop where
  run : f47_d n1 s2 n3 n4 n5 n6 n7 n8 n9 n10 n11 n12 n13 s14 n15 es16 full17 k0
def f47_tab : List (Nat×Told):=[]
def f47_call : FuncId→List TV→List Entry→(TV→List Entry→Prop)→Prop:=addCall 48 f48_G (noCalls)
def f47_C : Ctx:=mkC [] [] [] [] [] false 0 true (lookL f47_tab) f47_call
def f47_G0 : List TV→List Entry→(TV→List Entry→Prop)→Prop:=fun tm hp K=>getS [.v (.one (.int .i64)),.v (.pagg [.str,.int .i64,.int .i64,.int .i64,.int .i64,.int .i64,.int .i64,.int .i64,.int .i64,.int .i64,.int .i64,.int .i64,.str,.int .i64,.sl 3])] [] tm hp fun (xx : (Int×((ByteArray×(Int×(Int×(Int×(Int×(Int×(Int×(Int×(Int×(Int×(Int×(Int×(ByteArray×(Int×((LL×Bool)×Unit)))))))))))))))×Unit))) (yy : Unit)=>f47 xx.1 xx.2.1.1 xx.2.1.2.1 xx.2.1.2.2.1 xx.2.1.2.2.2.1 xx.2.1.2.2.2.2.1 xx.2.1.2.2.2.2.2.1 xx.2.1.2.2.2.2.2.2.1 xx.2.1.2.2.2.2.2.2.2.1 xx.2.1.2.2.2.2.2.2.2.2.1 xx.2.1.2.2.2.2.2.2.2.2.2.1 xx.2.1.2.2.2.2.2.2.2.2.2.2.1 xx.2.1.2.2.2.2.2.2.2.2.2.2.2.1 xx.2.1.2.2.2.2.2.2.2.2.2.2.2.2.1 xx.2.1.2.2.2.2.2.2.2.2.2.2.2.2.2.1 xx.2.1.2.2.2.2.2.2.2.2.2.2.2.2.2.2.1.1 xx.2.1.2.2.2.2.2.2.2.2.2.2.2.2.2.2.1.2 (fun b0_0=>K (B b0_0) [])
theorem f47_eq (n_1 : Int) (s_2 : ByteArray) (n_3 n_4 : Int) (n_5 n_6 : Int) (n_7 n_8 : Int) (n_9 n_10 : Int) (n_11 n_12 n_13 : Int) (s_14 : ByteArray) (n_15 : Int) (es_16 : LL) (full_17 : Bool) (K : TV→List Entry→Prop) : (f47_d n_1 s_2 n_3 n_4 n_5 n_6 n_7 n_8 n_9 n_10 n_11 n_12 n_13 s_14 n_15 es_16 full_17 (fun b0_0=>K (B b0_0) [])) = funcT f47_C Tryz.f47 [I n_1,.w (.pagg [pS s_2,pI n_3,pI n_4,pI n_5,pI n_6,pI n_7,pI n_8,pI n_9,pI n_10,pI n_11,pI n_12,pI n_13,pS s_14,pI n_15,.sl 3 es_16 full_17])] [] K:=by kernel_rfl
set_option maxHeartbeats 4000000 in
theorem f47_ok0 : FnOk Tryz.prog glob 47 f47_G0:=by
  refine FnOk.of_text (C:=f47_C) tab_ok.ok (Known.add f48_G_ok (Known.none)) follows_ok (fn:=Tryz.f47) (by kernel_rfl) (by kernel_rfl) (by kernel_rfl) (fun c hc=>?_) fun tm hp K h=>?_
  · have e : c = bodyOf Tryz.f47:=Option.some.inj (hc.symm.trans (by kernel_rfl))
    subst e
    exact ⟨LoopsOk.of [] (by kernel_rfl) trivial,TailsOk.of (tab:=f47_tab) rfl [] (by kernel_rfl) trivial⟩
  · unfold f47_G0 at h
    obtain ⟨xx,yy,rfl,rfl,h⟩:=getS_elim h
    have e:=(f47_eq xx.1 xx.2.1.1 xx.2.1.2.1 xx.2.1.2.2.1 xx.2.1.2.2.2.1 xx.2.1.2.2.2.2.1 xx.2.1.2.2.2.2.2.1 xx.2.1.2.2.2.2.2.2.1 xx.2.1.2.2.2.2.2.2.2.1 xx.2.1.2.2.2.2.2.2.2.2.1 xx.2.1.2.2.2.2.2.2.2.2.2.1 xx.2.1.2.2.2.2.2.2.2.2.2.2.1 xx.2.1.2.2.2.2.2.2.2.2.2.2.2.1 xx.2.1.2.2.2.2.2.2.2.2.2.2.2.2.1 xx.2.1.2.2.2.2.2.2.2.2.2.2.2.2.2.1 xx.2.1.2.2.2.2.2.2.2.2.2.2.2.2.2.2.1.1 xx.2.1.2.2.2.2.2.2.2.2.2.2.2.2.2.2.1.2 K).trans (show _ = funcT f47_C Tryz.f47 (mkR _ xx) (mkE _ yy) K by kernel_rfl)
    rw [← e]
    exact h.run
abbrev f47_G:=f47_G0
theorem f47_G_ok : FnOk Tryz.prog glob 47 f47_G:=f47_ok0
def f40_5_p4b0 (n4 : Int) (es5 : LL) (full6 : Bool) (n7 n8 : Int) (N0 : Int→Prop) (k0 : Unit→Prop) (k1 : Unit→Prop) : Prop:=bB (decide (n8 < n7)) ((0≤n8∧n8 < (es5.length : Int))∧cS (ext (List.getD es5 (Int.toNat n8) []) 0 15) fun s10 r9=>cI .i64 r9 fun n12 r11=>cI .i64 r11 fun n14 r13=>cI .i64 r13 fun n16 r15=>cI .i64 r15 fun n18 r17=>cI .i64 r17 fun n20 r19=>cI .i64 r19 fun n22 r21=>cI .i64 r21 fun n24 r23=>cI .i64 r23 fun n26 r25=>cI .i64 r25 fun n28 r27=>cI .i64 r27 fun n30 r29=>cI .i64 r29 fun n32 r31=>cS r31 fun s34 r33=>cI .i64 r33 fun n36 r35=>cL 3 r35 fun es38 full39 r37=>nilC r37 <| f47 n8 s10 n12 n14 n16 n18 n20 n22 n24 n26 n28 n30 n32 s34 n36 es38 full39 (fun b40=>bB b40 (k0 ()) (N0 (w64 (n8 + 1))))) (k1 ())
def f40_5_p4 (n4 : Int) (es5 : LL) (full6 : Bool) (n7 : Int) (k0 : Unit→Prop) (k1 : Unit→Prop) : Int→Prop:=LoopP fun x N=>f40_5_p4b0 n4 es5 full6 n7 x (fun n8=>N n8) k0 k1
def f40_5_d (es1 : LL) (full2 : Bool) (n3 : Int) (k0 : Int→Prop) : Prop:=f40_5_p4 n3 es1 full2 (es1.length : Int) (fun (_ : Unit)=>k0 n3) (fun (_ : Unit)=>k0 0) 0
structure f40_5 (es1 : LL) (full2 : Bool) (n3 : Int) (k0 : Int→Prop) : Prop where
  run : f40_5_d es1 full2 n3 k0
def f40_5_p4L : Told:=fun s K=>match s with
  | ⟨tm,hp⟩=>getS [.skip 1,.v (.one (.int .i64)),.v (.one (.fn 47)),.skip 6,.v (.one (.sl 15)),.v (.one (.int .i64)),.v (.one (.int .i64)),.skip 10] [] tm hp fun (xx : (Unit×(Int×(Unit×(Unit×((LL×Bool)×(Int×(Int×(Unit×Unit))))))))) (yy : Unit)=>f40_5_p4 xx.2.1 xx.2.2.2.2.1.1 xx.2.2.2.2.1.2 xx.2.2.2.2.2.1 (fun (_ : Unit)=>K .ret ⟨mkS 22 [(6,I xx.2.1)],[]⟩) (fun (_ : Unit)=>K (.exit 0) ⟨mkS 22 [],[]⟩) xx.2.2.2.2.2.2.1
def f40_5_tab : List (Nat×Told):=[(4,f40_5_p4L)]
def f40_5_call : FuncId→List TV→List Entry→(TV→List Entry→Prop)→Prop:=addCall 47 f47_G (noCalls)
def f40_5_C : Ctx:=mkC [(4,[(0,[1,2,9,10,11]),(2,[6]),(3,[])])] [] [] [] [] false 0 true (lookL f40_5_tab) f40_5_call
def f40_5_p4_mk (n4 : Int) (es5 : LL) (full6 : Bool) (n7 x : Int) : St:=⟨mkS 22 [(1,I n4),(2,.w (.one (.p (.c (.func (.func 47) #[] #[]))))),(9,.w (.one (.p (.sl 15 es5 full6)))),(10,I n7),(11,I x)],[]⟩
theorem f40_5_p4e0 (n_6 : Int) (es_7 : LL) (full_8 : Bool) (n_9 n_10 : Int) (N : St→Prop) (K : TExit→St→Prop) : (f40_5_p4b0 n_6 es_7 full_8 n_9 n_10 (fun z4=>N (f40_5_p4_mk n_6 es_7 full_8 n_9 z4)) (fun (_ : Unit)=>K .ret ⟨mkS 22 [(6,I n_6)],[]⟩) (fun (_ : Unit)=>K (.exit 0) ⟨mkS 22 [],[]⟩)) = execT f40_5_C (bd Tryz.f40 0) (f40_5_p4_mk n_6 es_7 full_8 n_9 n_10) (loopK N (normK f40_5_C 4) fun e s=>K e (normOut f40_5_C 4 e s)):=by kernel_rfl
set_option maxHeartbeats 4000000 in
theorem f40_5_p4_ok : LoopOk f40_5_C (bd Tryz.f40 0):=by
  refine LoopOk.of f40_5_p4L (by kernel_rfl) fun σ K h=>?_
  have hk : loopKey (bd Tryz.f40 0) = 4:=by kernel_rfl
  rw [hk] at h ⊢
  generalize hs : normK f40_5_C 4 σ = s at h
  obtain ⟨tm,hp⟩:=s
  unfold f40_5_p4L at h
  dsimp only at h
  obtain ⟨xx,yy,rfl,rfl,h⟩:=getS_elim h
  refine iter_of (f40_5_p4_mk xx.2.1 xx.2.2.2.2.1.1 xx.2.2.2.2.1.2 xx.2.2.2.2.2.1) (fun x N h=>?_) rounds _ σ (hs.trans (by kernel_rfl)) (LoopP.run h)
  rw [← f40_5_p4e0 xx.2.1 xx.2.2.2.2.1.1 xx.2.2.2.2.1.2 xx.2.2.2.2.2.1 x N K]
  exact h
def f40_5_G0 : List TV→List Entry→(TV→List Entry→Prop)→Prop:=fun tm hp K=>getS [.v (.one (.sl 15)),.v (.one (.int .i64)),.v (.one (.fn 47))] [] tm hp fun (xx : ((LL×Bool)×(Int×(Unit×Unit)))) (yy : Unit)=>f40_5 xx.1.1 xx.1.2 xx.2.1 (fun n0_0=>K (I n0_0) [])
theorem f40_5_eq (es_11 : LL) (full_12 : Bool) (n_13 : Int) (K : TV→List Entry→Prop) : (f40_5_d es_11 full_12 n_13 (fun n0_0=>K (I n0_0) [])) = funcT f40_5_C Tryz.f40 [.w (.one (.p (.sl 15 es_11 full_12))),I n_13,.w (.one (.p (.c (.func (.func 47) #[] #[]))))] [] K:=by kernel_rfl
set_option maxHeartbeats 4000000 in
theorem f40_5_ok0 : FnOk Tryz.prog glob 40 f40_5_G0:=by
  refine FnOk.of_text (C:=f40_5_C) tab_ok.ok (Known.add f47_G_ok (Known.none)) follows_ok (fn:=Tryz.f40) (by kernel_rfl) (by kernel_rfl) (by kernel_rfl) (fun c hc=>?_) fun tm hp K h=>?_
  · have e : c = bodyOf Tryz.f40:=Option.some.inj (hc.symm.trans (by kernel_rfl))
    subst e
    exact ⟨LoopsOk.of [bd Tryz.f40 0] (by kernel_rfl) ⟨f40_5_p4_ok,trivial⟩,TailsOk.of (tab:=f40_5_tab) rfl [] (by kernel_rfl) trivial⟩
  · unfold f40_5_G0 at h
    obtain ⟨xx,yy,rfl,rfl,h⟩:=getS_elim h
    have e:=(f40_5_eq xx.1.1 xx.1.2 xx.2.1 K).trans (show _ = funcT f40_5_C Tryz.f40 (mkR _ xx) (mkE _ yy) K by kernel_rfl)
    rw [← e]
    exact h.run
def f40_5_G : List TV→List Entry→(TV→List Entry→Prop)→Prop:=fun args H K=>bif isSig (sigOf args H) [5,2,1047,7] then f40_5_G0 args H K else f40_4_G args H K
theorem f40_5_G_ok : FnOk Tryz.prog glob 40 f40_5_G:=FnOk.or _ f40_5_ok0 f40_4_G_ok
def f50_p4b0 (n18 : Int) (s19 : ByteArray) (n20 n21 : Int) (n22 n23 : Int) (n24 n25 : Int) (n26 n27 : Int) (n28 n29 n30 : Int) (s31 : ByteArray) (n32 : Int) (es33 : LL) (full34 : Bool) (N0 : Int→Prop) (k0 : Bool→Prop) (k1 : Unit→Prop) : Prop:=bB (decide (n18 < (es33.length : Int))) ((0≤(w64 (n18 - 1))∧(w64 (n18 - 1)) < (es33.length : Int))∧oI .i64 (ext (List.getD es33 (Int.toNat (w64 (n18 - 1))) []) 0 1) fun n35=>(0≤n18∧n18 < (es33.length : Int))∧oI .i64 (ext (List.getD es33 (Int.toNat n18) []) 0 1) fun n36=>bB (decide (n35≥n36)) (k0 true) (N0 (w64 (n18 + 1)))) (k1 ())
def f50_p4 (s19 : ByteArray) (n20 n21 : Int) (n22 n23 : Int) (n24 n25 : Int) (n26 n27 : Int) (n28 n29 n30 : Int) (s31 : ByteArray) (n32 : Int) (es33 : LL) (full34 : Bool) (k0 : Bool→Prop) (k1 : Unit→Prop) : Int→Prop:=LoopP fun x N=>f50_p4b0 x s19 n20 n21 n22 n23 n24 n25 n26 n27 n28 n29 n30 s31 n32 es33 full34 (fun n18=>N n18) k0 k1
def f50_d (n1 : Int) (s2 : ByteArray) (n3 n4 : Int) (n5 n6 : Int) (n7 n8 : Int) (n9 n10 : Int) (n11 n12 n13 : Int) (s14 : ByteArray) (n15 : Int) (es16 : LL) (full17 : Bool) (k0 : Bool→Prop) : Prop:=f50_p4 s2 n3 n4 n5 n6 n7 n8 n9 n10 n11 n12 n13 s14 n15 es16 full17 k0 (fun (_ : Unit)=>k0 false) 1
structure f50 (n1 : Int) (s2 : ByteArray) (n3 n4 : Int) (n5 n6 : Int) (n7 n8 : Int) (n9 n10 : Int) (n11 n12 n13 : Int) (s14 : ByteArray) (n15 : Int) (es16 : LL) (full17 : Bool) (k0 : Bool→Prop) : Prop where
  run : f50_d n1 s2 n3 n4 n5 n6 n7 n8 n9 n10 n11 n12 n13 s14 n15 es16 full17 k0
def f50_p4L : Told:=fun s K=>match s with
  | ⟨tm,hp⟩=>getS [.skip 3,.v (.one (.ptr 0 0 0)),.skip 1,.v (.one (.int .i64)),.skip 21] [.box [.str,.int .i64,.int .i64,.int .i64,.int .i64,.int .i64,.int .i64,.int .i64,.int .i64,.int .i64,.int .i64,.int .i64,.str,.int .i64,.sl 3]] tm hp fun (xx : (Unit×(Unit×(Unit×(Int×(Unit×Unit)))))) (yy : ((ByteArray×(Int×(Int×(Int×(Int×(Int×(Int×(Int×(Int×(Int×(Int×(Int×(ByteArray×(Int×((LL×Bool)×Unit)))))))))))))))×Unit))=>f50_p4 yy.1.1 yy.1.2.1 yy.1.2.2.1 yy.1.2.2.2.1 yy.1.2.2.2.2.1 yy.1.2.2.2.2.2.1 yy.1.2.2.2.2.2.2.1 yy.1.2.2.2.2.2.2.2.1 yy.1.2.2.2.2.2.2.2.2.1 yy.1.2.2.2.2.2.2.2.2.2.1 yy.1.2.2.2.2.2.2.2.2.2.2.1 yy.1.2.2.2.2.2.2.2.2.2.2.2.1 yy.1.2.2.2.2.2.2.2.2.2.2.2.2.1 yy.1.2.2.2.2.2.2.2.2.2.2.2.2.2.1 yy.1.2.2.2.2.2.2.2.2.2.2.2.2.2.2.1.1 yy.1.2.2.2.2.2.2.2.2.2.2.2.2.2.2.1.2 (fun b0_0=>K .ret ⟨mkS 27 [(4,B b0_0)],[]⟩) (fun (_ : Unit)=>K (.exit 0) ⟨mkS 27 [],[]⟩) xx.2.2.2.1
def f50_tab : List (Nat×Told):=[(4,f50_p4L)]
def f50_call : FuncId→List TV→List Entry→(TV→List Entry→Prop)→Prop:=noCalls
def f50_C : Ctx:=mkC [(4,[(0,[3,5]),(2,[4]),(3,[])])] [] [] [] [] false 0 true (lookL f50_tab) f50_call
def f50_p4_mk (s19 : ByteArray) (n20 n21 : Int) (n22 n23 : Int) (n24 n25 : Int) (n26 n27 : Int) (n28 n29 n30 : Int) (s31 : ByteArray) (n32 : Int) (es33 : LL) (full34 : Bool) (x : Int) : St:=⟨mkS 27 [(3,.w (.one (.ptr 0 0 0))),(5,I x)],[.box [.p (pS s19),.p (pI n20),.p (pI n21),.p (pI n22),.p (pI n23),.p (pI n24),.p (pI n25),.p (pI n26),.p (pI n27),.p (pI n28),.p (pI n29),.p (pI n30),.p (pS s31),.p (pI n32),.p (.sl 3 es33 full34)]]⟩
theorem f50_p4e0 (n_19 : Int) (s_20 : ByteArray) (n_21 n_22 : Int) (n_23 n_24 : Int) (n_25 n_26 : Int) (n_27 n_28 : Int) (n_29 n_30 n_31 : Int) (s_32 : ByteArray) (n_33 : Int) (es_34 : LL) (full_35 : Bool) (N : St→Prop) (K : TExit→St→Prop) : (f50_p4b0 n_19 s_20 n_21 n_22 n_23 n_24 n_25 n_26 n_27 n_28 n_29 n_30 n_31 s_32 n_33 es_34 full_35 (fun z0=>N (f50_p4_mk s_20 n_21 n_22 n_23 n_24 n_25 n_26 n_27 n_28 n_29 n_30 n_31 s_32 n_33 es_34 full_35 z0)) (fun b0_36=>K .ret ⟨mkS 27 [(4,B b0_36)],[]⟩) (fun (_ : Unit)=>K (.exit 0) ⟨mkS 27 [],[]⟩)) = execT f50_C (bd Tryz.f50 0) (f50_p4_mk s_20 n_21 n_22 n_23 n_24 n_25 n_26 n_27 n_28 n_29 n_30 n_31 s_32 n_33 es_34 full_35 n_19) (loopK N (normK f50_C 4) fun e s=>K e (normOut f50_C 4 e s)):=by kernel_rfl
set_option maxHeartbeats 4000000 in
theorem f50_p4_ok : LoopOk f50_C (bd Tryz.f50 0):=by
  refine LoopOk.of f50_p4L (by kernel_rfl) fun σ K h=>?_
  have hk : loopKey (bd Tryz.f50 0) = 4:=by kernel_rfl
  rw [hk] at h ⊢
  generalize hs : normK f50_C 4 σ = s at h
  obtain ⟨tm,hp⟩:=s
  unfold f50_p4L at h
  dsimp only at h
  obtain ⟨xx,yy,rfl,rfl,h⟩:=getS_elim h
  refine iter_of (f50_p4_mk yy.1.1 yy.1.2.1 yy.1.2.2.1 yy.1.2.2.2.1 yy.1.2.2.2.2.1 yy.1.2.2.2.2.2.1 yy.1.2.2.2.2.2.2.1 yy.1.2.2.2.2.2.2.2.1 yy.1.2.2.2.2.2.2.2.2.1 yy.1.2.2.2.2.2.2.2.2.2.1 yy.1.2.2.2.2.2.2.2.2.2.2.1 yy.1.2.2.2.2.2.2.2.2.2.2.2.1 yy.1.2.2.2.2.2.2.2.2.2.2.2.2.1 yy.1.2.2.2.2.2.2.2.2.2.2.2.2.2.1 yy.1.2.2.2.2.2.2.2.2.2.2.2.2.2.2.1.1 yy.1.2.2.2.2.2.2.2.2.2.2.2.2.2.2.1.2) (fun x N h=>?_) rounds _ σ (hs.trans (by kernel_rfl)) (LoopP.run h)
  rw [← f50_p4e0 x yy.1.1 yy.1.2.1 yy.1.2.2.1 yy.1.2.2.2.1 yy.1.2.2.2.2.1 yy.1.2.2.2.2.2.1 yy.1.2.2.2.2.2.2.1 yy.1.2.2.2.2.2.2.2.1 yy.1.2.2.2.2.2.2.2.2.1 yy.1.2.2.2.2.2.2.2.2.2.1 yy.1.2.2.2.2.2.2.2.2.2.2.1 yy.1.2.2.2.2.2.2.2.2.2.2.2.1 yy.1.2.2.2.2.2.2.2.2.2.2.2.2.1 yy.1.2.2.2.2.2.2.2.2.2.2.2.2.2.1 yy.1.2.2.2.2.2.2.2.2.2.2.2.2.2.2.1.1 yy.1.2.2.2.2.2.2.2.2.2.2.2.2.2.2.1.2 N K]
  exact h
def f50_G0 : List TV→List Entry→(TV→List Entry→Prop)→Prop:=fun tm hp K=>getS [.v (.one (.int .i64)),.v (.pagg [.str,.int .i64,.int .i64,.int .i64,.int .i64,.int .i64,.int .i64,.int .i64,.int .i64,.int .i64,.int .i64,.int .i64,.str,.int .i64,.sl 3])] [] tm hp fun (xx : (Int×((ByteArray×(Int×(Int×(Int×(Int×(Int×(Int×(Int×(Int×(Int×(Int×(Int×(ByteArray×(Int×((LL×Bool)×Unit)))))))))))))))×Unit))) (yy : Unit)=>f50 xx.1 xx.2.1.1 xx.2.1.2.1 xx.2.1.2.2.1 xx.2.1.2.2.2.1 xx.2.1.2.2.2.2.1 xx.2.1.2.2.2.2.2.1 xx.2.1.2.2.2.2.2.2.1 xx.2.1.2.2.2.2.2.2.2.1 xx.2.1.2.2.2.2.2.2.2.2.1 xx.2.1.2.2.2.2.2.2.2.2.2.1 xx.2.1.2.2.2.2.2.2.2.2.2.2.1 xx.2.1.2.2.2.2.2.2.2.2.2.2.2.1 xx.2.1.2.2.2.2.2.2.2.2.2.2.2.2.1 xx.2.1.2.2.2.2.2.2.2.2.2.2.2.2.2.1 xx.2.1.2.2.2.2.2.2.2.2.2.2.2.2.2.2.1.1 xx.2.1.2.2.2.2.2.2.2.2.2.2.2.2.2.2.1.2 (fun b0_1=>K (B b0_1) [])
theorem f50_eq (n_37 : Int) (s_38 : ByteArray) (n_39 n_40 : Int) (n_41 n_42 : Int) (n_43 n_44 : Int) (n_45 n_46 : Int) (n_47 n_48 n_49 : Int) (s_50 : ByteArray) (n_51 : Int) (es_52 : LL) (full_53 : Bool) (K : TV→List Entry→Prop) : (f50_d n_37 s_38 n_39 n_40 n_41 n_42 n_43 n_44 n_45 n_46 n_47 n_48 n_49 s_50 n_51 es_52 full_53 (fun b0_1=>K (B b0_1) [])) = funcT f50_C Tryz.f50 [I n_37,.w (.pagg [pS s_38,pI n_39,pI n_40,pI n_41,pI n_42,pI n_43,pI n_44,pI n_45,pI n_46,pI n_47,pI n_48,pI n_49,pS s_50,pI n_51,.sl 3 es_52 full_53])] [] K:=by kernel_rfl
set_option maxHeartbeats 4000000 in
theorem f50_ok0 : FnOk Tryz.prog glob 50 f50_G0:=by
  refine FnOk.of_text (C:=f50_C) tab_ok.ok (Known.none) follows_ok (fn:=Tryz.f50) (by kernel_rfl) (by kernel_rfl) (by kernel_rfl) (fun c hc=>?_) fun tm hp K h=>?_
  · have e : c = bodyOf Tryz.f50:=Option.some.inj (hc.symm.trans (by kernel_rfl))
    subst e
    exact ⟨LoopsOk.of [bd Tryz.f50 0] (by kernel_rfl) ⟨f50_p4_ok,trivial⟩,TailsOk.of (tab:=f50_tab) rfl [] (by kernel_rfl) trivial⟩
  · unfold f50_G0 at h
    obtain ⟨xx,yy,rfl,rfl,h⟩:=getS_elim h
    have e:=(f50_eq xx.1 xx.2.1.1 xx.2.1.2.1 xx.2.1.2.2.1 xx.2.1.2.2.2.1 xx.2.1.2.2.2.2.1 xx.2.1.2.2.2.2.2.1 xx.2.1.2.2.2.2.2.2.1 xx.2.1.2.2.2.2.2.2.2.1 xx.2.1.2.2.2.2.2.2.2.2.1 xx.2.1.2.2.2.2.2.2.2.2.2.1 xx.2.1.2.2.2.2.2.2.2.2.2.2.1 xx.2.1.2.2.2.2.2.2.2.2.2.2.2.1 xx.2.1.2.2.2.2.2.2.2.2.2.2.2.2.1 xx.2.1.2.2.2.2.2.2.2.2.2.2.2.2.2.1 xx.2.1.2.2.2.2.2.2.2.2.2.2.2.2.2.2.1.1 xx.2.1.2.2.2.2.2.2.2.2.2.2.2.2.2.2.1.2 K).trans (show _ = funcT f50_C Tryz.f50 (mkR _ xx) (mkE _ yy) K by kernel_rfl)
    rw [← e]
    exact h.run
abbrev f50_G:=f50_G0
theorem f50_G_ok : FnOk Tryz.prog glob 50 f50_G:=f50_ok0
def f40_6_p4b0 (n4 : Int) (es5 : LL) (full6 : Bool) (n7 n8 : Int) (N0 : Int→Prop) (k0 : Unit→Prop) (k1 : Unit→Prop) : Prop:=bB (decide (n8 < n7)) ((0≤n8∧n8 < (es5.length : Int))∧cS (ext (List.getD es5 (Int.toNat n8) []) 0 15) fun s10 r9=>cI .i64 r9 fun n12 r11=>cI .i64 r11 fun n14 r13=>cI .i64 r13 fun n16 r15=>cI .i64 r15 fun n18 r17=>cI .i64 r17 fun n20 r19=>cI .i64 r19 fun n22 r21=>cI .i64 r21 fun n24 r23=>cI .i64 r23 fun n26 r25=>cI .i64 r25 fun n28 r27=>cI .i64 r27 fun n30 r29=>cI .i64 r29 fun n32 r31=>cS r31 fun s34 r33=>cI .i64 r33 fun n36 r35=>cL 3 r35 fun es38 full39 r37=>nilC r37 <| f50 n8 s10 n12 n14 n16 n18 n20 n22 n24 n26 n28 n30 n32 s34 n36 es38 full39 (fun b40=>bB b40 (k0 ()) (N0 (w64 (n8 + 1))))) (k1 ())
def f40_6_p4 (n4 : Int) (es5 : LL) (full6 : Bool) (n7 : Int) (k0 : Unit→Prop) (k1 : Unit→Prop) : Int→Prop:=LoopP fun x N=>f40_6_p4b0 n4 es5 full6 n7 x (fun n8=>N n8) k0 k1
def f40_6_d (es1 : LL) (full2 : Bool) (n3 : Int) (k0 : Int→Prop) : Prop:=f40_6_p4 n3 es1 full2 (es1.length : Int) (fun (_ : Unit)=>k0 n3) (fun (_ : Unit)=>k0 0) 0
structure f40_6 (es1 : LL) (full2 : Bool) (n3 : Int) (k0 : Int→Prop) : Prop where
  run : f40_6_d es1 full2 n3 k0
def f40_6_p4L : Told:=fun s K=>match s with
  | ⟨tm,hp⟩=>getS [.skip 1,.v (.one (.int .i64)),.v (.one (.fn 50)),.skip 6,.v (.one (.sl 15)),.v (.one (.int .i64)),.v (.one (.int .i64)),.skip 10] [] tm hp fun (xx : (Unit×(Int×(Unit×(Unit×((LL×Bool)×(Int×(Int×(Unit×Unit))))))))) (yy : Unit)=>f40_6_p4 xx.2.1 xx.2.2.2.2.1.1 xx.2.2.2.2.1.2 xx.2.2.2.2.2.1 (fun (_ : Unit)=>K .ret ⟨mkS 22 [(6,I xx.2.1)],[]⟩) (fun (_ : Unit)=>K (.exit 0) ⟨mkS 22 [],[]⟩) xx.2.2.2.2.2.2.1
def f40_6_tab : List (Nat×Told):=[(4,f40_6_p4L)]
def f40_6_call : FuncId→List TV→List Entry→(TV→List Entry→Prop)→Prop:=addCall 50 f50_G (noCalls)
def f40_6_C : Ctx:=mkC [(4,[(0,[1,2,9,10,11]),(2,[6]),(3,[])])] [] [] [] [] false 0 true (lookL f40_6_tab) f40_6_call
def f40_6_p4_mk (n4 : Int) (es5 : LL) (full6 : Bool) (n7 x : Int) : St:=⟨mkS 22 [(1,I n4),(2,.w (.one (.p (.c (.func (.func 50) #[] #[]))))),(9,.w (.one (.p (.sl 15 es5 full6)))),(10,I n7),(11,I x)],[]⟩
theorem f40_6_p4e0 (n_6 : Int) (es_7 : LL) (full_8 : Bool) (n_9 n_10 : Int) (N : St→Prop) (K : TExit→St→Prop) : (f40_6_p4b0 n_6 es_7 full_8 n_9 n_10 (fun z4=>N (f40_6_p4_mk n_6 es_7 full_8 n_9 z4)) (fun (_ : Unit)=>K .ret ⟨mkS 22 [(6,I n_6)],[]⟩) (fun (_ : Unit)=>K (.exit 0) ⟨mkS 22 [],[]⟩)) = execT f40_6_C (bd Tryz.f40 0) (f40_6_p4_mk n_6 es_7 full_8 n_9 n_10) (loopK N (normK f40_6_C 4) fun e s=>K e (normOut f40_6_C 4 e s)):=by kernel_rfl
set_option maxHeartbeats 4000000 in
theorem f40_6_p4_ok : LoopOk f40_6_C (bd Tryz.f40 0):=by
  refine LoopOk.of f40_6_p4L (by kernel_rfl) fun σ K h=>?_
  have hk : loopKey (bd Tryz.f40 0) = 4:=by kernel_rfl
  rw [hk] at h ⊢
  generalize hs : normK f40_6_C 4 σ = s at h
  obtain ⟨tm,hp⟩:=s
  unfold f40_6_p4L at h
  dsimp only at h
  obtain ⟨xx,yy,rfl,rfl,h⟩:=getS_elim h
  refine iter_of (f40_6_p4_mk xx.2.1 xx.2.2.2.2.1.1 xx.2.2.2.2.1.2 xx.2.2.2.2.2.1) (fun x N h=>?_) rounds _ σ (hs.trans (by kernel_rfl)) (LoopP.run h)
  rw [← f40_6_p4e0 xx.2.1 xx.2.2.2.2.1.1 xx.2.2.2.2.1.2 xx.2.2.2.2.2.1 x N K]
  exact h
def f40_6_G0 : List TV→List Entry→(TV→List Entry→Prop)→Prop:=fun tm hp K=>getS [.v (.one (.sl 15)),.v (.one (.int .i64)),.v (.one (.fn 50))] [] tm hp fun (xx : ((LL×Bool)×(Int×(Unit×Unit)))) (yy : Unit)=>f40_6 xx.1.1 xx.1.2 xx.2.1 (fun n0_0=>K (I n0_0) [])
theorem f40_6_eq (es_11 : LL) (full_12 : Bool) (n_13 : Int) (K : TV→List Entry→Prop) : (f40_6_d es_11 full_12 n_13 (fun n0_0=>K (I n0_0) [])) = funcT f40_6_C Tryz.f40 [.w (.one (.p (.sl 15 es_11 full_12))),I n_13,.w (.one (.p (.c (.func (.func 50) #[] #[]))))] [] K:=by kernel_rfl
set_option maxHeartbeats 4000000 in
theorem f40_6_ok0 : FnOk Tryz.prog glob 40 f40_6_G0:=by
  refine FnOk.of_text (C:=f40_6_C) tab_ok.ok (Known.add f50_G_ok (Known.none)) follows_ok (fn:=Tryz.f40) (by kernel_rfl) (by kernel_rfl) (by kernel_rfl) (fun c hc=>?_) fun tm hp K h=>?_
  · have e : c = bodyOf Tryz.f40:=Option.some.inj (hc.symm.trans (by kernel_rfl))
    subst e
    exact ⟨LoopsOk.of [bd Tryz.f40 0] (by kernel_rfl) ⟨f40_6_p4_ok,trivial⟩,TailsOk.of (tab:=f40_6_tab) rfl [] (by kernel_rfl) trivial⟩
  · unfold f40_6_G0 at h
    obtain ⟨xx,yy,rfl,rfl,h⟩:=getS_elim h
    have e:=(f40_6_eq xx.1.1 xx.1.2 xx.2.1 K).trans (show _ = funcT f40_6_C Tryz.f40 (mkR _ xx) (mkE _ yy) K by kernel_rfl)
    rw [← e]
    exact h.run
def f40_6_G : List TV→List Entry→(TV→List Entry→Prop)→Prop:=fun args H K=>bif isSig (sigOf args H) [5,2,1050,7] then f40_6_G0 args H K else f40_5_G args H K
theorem f40_6_G_ok : FnOk Tryz.prog glob 40 f40_6_G:=FnOk.or _ f40_6_ok0 f40_5_G_ok
def f53_d (n1 n2 : Int) (k0 : Bool→Prop) : Prop:=bB (n1 == 0) (k0 ((n1 == 0) && ((n2 == 0) && true))) (bB (n1 == 1) (bB (decide (((-1000000000000) : Int)≤n2)) (k0 (decide (n2≤1000000000000))) (k0 false)) (bB (n1 == 2) (bB (n2 == 0) (k0 true) (k0 (n2 == 1))) (bB (n1 == 3) (bB (decide ((1 : Int)≤n2)) (k0 (decide (n2≤16))) (k0 false)) (k0 false))))
structure f53 (n1 n2 : Int) (k0 : Bool→Prop) : Prop where
  run : f53_d n1 n2 k0
def f53_tab : List (Nat×Told):=[]
def f53_call : FuncId→List TV→List Entry→(TV→List Entry→Prop)→Prop:=noCalls
def f53_C : Ctx:=mkC [] [] [] [] [] false 0 true (lookL f53_tab) f53_call
def f53_G0 : List TV→List Entry→(TV→List Entry→Prop)→Prop:=fun tm hp K=>getS [.v (.pagg [.int .i64,.int .i64])] [] tm hp fun (xx : ((Int×(Int×Unit))×Unit)) (yy : Unit)=>f53 xx.1.1 xx.1.2.1 (fun b0_0=>K (B b0_0) [])
theorem f53_eq (n_1 n_2 : Int) (K : TV→List Entry→Prop) : (f53_d n_1 n_2 (fun b0_0=>K (B b0_0) [])) = funcT f53_C Tryz.f53 [.w (.pagg [pI n_1,pI n_2])] [] K:=by kernel_rfl
set_option maxHeartbeats 4000000 in
theorem f53_ok0 : FnOk Tryz.prog glob 53 f53_G0:=by
  refine FnOk.of_text (C:=f53_C) tab_ok.ok (Known.none) follows_ok (fn:=Tryz.f53) (by kernel_rfl) (by kernel_rfl) (by kernel_rfl) (fun c hc=>?_) fun tm hp K h=>?_
  · have e : c = bodyOf Tryz.f53:=Option.some.inj (hc.symm.trans (by kernel_rfl))
    subst e
    exact ⟨LoopsOk.of [] (by kernel_rfl) trivial,TailsOk.of (tab:=f53_tab) rfl [] (by kernel_rfl) trivial⟩
  · unfold f53_G0 at h
    obtain ⟨xx,yy,rfl,rfl,h⟩:=getS_elim h
    have e:=(f53_eq xx.1.1 xx.1.2.1 K).trans (show _ = funcT f53_C Tryz.f53 (mkR _ xx) (mkE _ yy) K by kernel_rfl)
    rw [← e]
    exact h.run
abbrev f53_G:=f53_G0
theorem f53_G_ok : FnOk Tryz.prog glob 53 f53_G:=f53_ok0
def f52_d (n1 n2 n3 : Int) (k0 : Bool→Prop) : Prop:=f53 n2 n3 (fun b4=>k0 (!b4))
structure f52 (n1 n2 n3 : Int) (k0 : Bool→Prop) : Prop where
  run : f52_d n1 n2 n3 k0
def f52_tab : List (Nat×Told):=[]
def f52_call : FuncId→List TV→List Entry→(TV→List Entry→Prop)→Prop:=addCall 53 f53_G (noCalls)
def f52_C : Ctx:=mkC [] [] [] [] [] false 0 true (lookL f52_tab) f52_call
def f52_G0 : List TV→List Entry→(TV→List Entry→Prop)→Prop:=fun tm hp K=>getS [.v (.pagg [.int .i64,.int .i64,.int .i64])] [] tm hp fun (xx : ((Int×(Int×(Int×Unit)))×Unit)) (yy : Unit)=>f52 xx.1.1 xx.1.2.1 xx.1.2.2.1 (fun b0_0=>K (B b0_0) [])
theorem f52_eq (n_1 n_2 n_3 : Int) (K : TV→List Entry→Prop) : (f52_d n_1 n_2 n_3 (fun b0_0=>K (B b0_0) [])) = funcT f52_C Tryz.f52 [.w (.pagg [pI n_1,pI n_2,pI n_3])] [] K:=by kernel_rfl
set_option maxHeartbeats 4000000 in
theorem f52_ok0 : FnOk Tryz.prog glob 52 f52_G0:=by
  refine FnOk.of_text (C:=f52_C) tab_ok.ok (Known.add f53_G_ok (Known.none)) follows_ok (fn:=Tryz.f52) (by kernel_rfl) (by kernel_rfl) (by kernel_rfl) (fun c hc=>?_) fun tm hp K h=>?_
  · have e : c = bodyOf Tryz.f52:=Option.some.inj (hc.symm.trans (by kernel_rfl))
    subst e
    exact ⟨LoopsOk.of [] (by kernel_rfl) trivial,TailsOk.of (tab:=f52_tab) rfl [] (by kernel_rfl) trivial⟩
  · unfold f52_G0 at h
    obtain ⟨xx,yy,rfl,rfl,h⟩:=getS_elim h
    have e:=(f52_eq xx.1.1 xx.1.2.1 xx.1.2.2.1 K).trans (show _ = funcT f52_C Tryz.f52 (mkR _ xx) (mkE _ yy) K by kernel_rfl)
    rw [← e]
    exact h.run
abbrev f52_G:=f52_G0
theorem f52_G_ok : FnOk Tryz.prog glob 52 f52_G:=f52_ok0
def f85_1_p4b0 (es3 : LL) (full4 : Bool) (n5 n6 : Int) (N0 : Int→Prop) (k0 : Int→Prop) (k1 : Unit→Prop) : Prop:=bB (decide (n6 < n5)) ((0≤n6∧n6 < (es3.length : Int))∧cI .i64 (ext (List.getD es3 (Int.toNat n6) []) 0 3) fun n8 r7=>cI .i64 r7 fun n10 r9=>cI .i64 r9 fun n12 r11=>nilC r11 <| f52 n8 n10 n12 (fun b13=>bB b13 (k0 n6) (N0 (w64 (n6 + 1))))) (k1 ())
def f85_1_p4 (es3 : LL) (full4 : Bool) (n5 : Int) (k0 : Int→Prop) (k1 : Unit→Prop) : Int→Prop:=LoopP fun x N=>f85_1_p4b0 es3 full4 n5 x (fun n6=>N n6) k0 k1
def f85_1_d (es1 : LL) (full2 : Bool) (k0 : Int→Prop) : Prop:=f85_1_p4 es1 full2 (es1.length : Int) k0 (fun (_ : Unit)=>k0 (-1)) 0
structure f85_1 (es1 : LL) (full2 : Bool) (k0 : Int→Prop) : Prop where
  run : f85_1_d es1 full2 k0
def f85_1_p4L : Told:=fun s K=>match s with
  | ⟨tm,hp⟩=>getS [.v (.one (.sl 3)),.v (.one (.fn 52)),.skip 5,.v (.one (.int .i64)),.v (.one (.int .i64)),.skip 10] [] tm hp fun (xx : ((LL×Bool)×(Unit×(Unit×(Int×(Int×(Unit×Unit))))))) (yy : Unit)=>f85_1_p4 xx.1.1 xx.1.2 xx.2.2.2.1 (fun n0_0=>K .ret ⟨mkS 19 [(4,I n0_0)],[]⟩) (fun (_ : Unit)=>K (.exit 0) ⟨mkS 19 [],[]⟩) xx.2.2.2.2.1
def f85_1_tab : List (Nat×Told):=[(4,f85_1_p4L)]
def f85_1_call : FuncId→List TV→List Entry→(TV→List Entry→Prop)→Prop:=addCall 52 f52_G (noCalls)
def f85_1_C : Ctx:=mkC [(4,[(0,[0,1,7,8]),(2,[4]),(3,[])])] [] [] [] [] false 0 true (lookL f85_1_tab) f85_1_call
def f85_1_p4_mk (es3 : LL) (full4 : Bool) (n5 x : Int) : St:=⟨mkS 19 [(0,.w (.one (.p (.sl 3 es3 full4)))),(1,.w (.one (.p (.c (.func (.func 52) #[] #[]))))),(7,I n5),(8,I x)],[]⟩
theorem f85_1_p4e0 (es_6 : LL) (full_7 : Bool) (n_8 n_9 : Int) (N : St→Prop) (K : TExit→St→Prop) : (f85_1_p4b0 es_6 full_7 n_8 n_9 (fun z3=>N (f85_1_p4_mk es_6 full_7 n_8 z3)) (fun n0_10=>K .ret ⟨mkS 19 [(4,I n0_10)],[]⟩) (fun (_ : Unit)=>K (.exit 0) ⟨mkS 19 [],[]⟩)) = execT f85_1_C (bd Tryz.f85 0) (f85_1_p4_mk es_6 full_7 n_8 n_9) (loopK N (normK f85_1_C 4) fun e s=>K e (normOut f85_1_C 4 e s)):=by kernel_rfl
set_option maxHeartbeats 4000000 in
theorem f85_1_p4_ok : LoopOk f85_1_C (bd Tryz.f85 0):=by
  refine LoopOk.of f85_1_p4L (by kernel_rfl) fun σ K h=>?_
  have hk : loopKey (bd Tryz.f85 0) = 4:=by kernel_rfl
  rw [hk] at h ⊢
  generalize hs : normK f85_1_C 4 σ = s at h
  obtain ⟨tm,hp⟩:=s
  unfold f85_1_p4L at h
  dsimp only at h
  obtain ⟨xx,yy,rfl,rfl,h⟩:=getS_elim h
  refine iter_of (f85_1_p4_mk xx.1.1 xx.1.2 xx.2.2.2.1) (fun x N h=>?_) rounds _ σ (hs.trans (by kernel_rfl)) (LoopP.run h)
  rw [← f85_1_p4e0 xx.1.1 xx.1.2 xx.2.2.2.1 x N K]
  exact h
def f85_1_G0 : List TV→List Entry→(TV→List Entry→Prop)→Prop:=fun tm hp K=>getS [.v (.one (.sl 3)),.v (.one (.fn 52))] [] tm hp fun (xx : ((LL×Bool)×(Unit×Unit))) (yy : Unit)=>f85_1 xx.1.1 xx.1.2 (fun n0_1=>K (I n0_1) [])
theorem f85_1_eq (es_11 : LL) (full_12 : Bool) (K : TV→List Entry→Prop) : (f85_1_d es_11 full_12 (fun n0_1=>K (I n0_1) [])) = funcT f85_1_C Tryz.f85 [.w (.one (.p (.sl 3 es_11 full_12))),.w (.one (.p (.c (.func (.func 52) #[] #[]))))] [] K:=by kernel_rfl
set_option maxHeartbeats 4000000 in
theorem f85_1_ok0 : FnOk Tryz.prog glob 85 f85_1_G0:=by
  refine FnOk.of_text (C:=f85_1_C) tab_ok.ok (Known.add f52_G_ok (Known.none)) follows_ok (fn:=Tryz.f85) (by kernel_rfl) (by kernel_rfl) (by kernel_rfl) (fun c hc=>?_) fun tm hp K h=>?_
  · have e : c = bodyOf Tryz.f85:=Option.some.inj (hc.symm.trans (by kernel_rfl))
    subst e
    exact ⟨LoopsOk.of [bd Tryz.f85 0] (by kernel_rfl) ⟨f85_1_p4_ok,trivial⟩,TailsOk.of (tab:=f85_1_tab) rfl [] (by kernel_rfl) trivial⟩
  · unfold f85_1_G0 at h
    obtain ⟨xx,yy,rfl,rfl,h⟩:=getS_elim h
    have e:=(f85_1_eq xx.1.1 xx.1.2 K).trans (show _ = funcT f85_1_C Tryz.f85 (mkR _ xx) (mkE _ yy) K by kernel_rfl)
    rw [← e]
    exact h.run
def f85_1_G : List TV→List Entry→(TV→List Entry→Prop)→Prop:=fun args H K=>bif isSig (sigOf args H) [5,1052,7] then f85_1_G0 args H K else f85_G args H K
theorem f85_1_G_ok : FnOk Tryz.prog glob 85 f85_1_G:=FnOk.or _ f85_1_ok0 f85_G_ok
def f48_1_d (es1 : LL) (full2 : Bool) (k0 : Bool→Prop) : Prop:=f85_1 es1 full2 (fun n3=>k0 (decide (n3≥0)))
structure f48_1 (es1 : LL) (full2 : Bool) (k0 : Bool→Prop) : Prop where
  run : f48_1_d es1 full2 k0
def f48_1_tab : List (Nat×Told):=[]
def f48_1_call : FuncId→List TV→List Entry→(TV→List Entry→Prop)→Prop:=addCall 85 f85_1_G (noCalls)
def f48_1_C : Ctx:=mkC [] [] [] [] [] false 0 true (lookL f48_1_tab) f48_1_call
def f48_1_G0 : List TV→List Entry→(TV→List Entry→Prop)→Prop:=fun tm hp K=>getS [.v (.one (.sl 3)),.v (.one (.fn 52))] [] tm hp fun (xx : ((LL×Bool)×(Unit×Unit))) (yy : Unit)=>f48_1 xx.1.1 xx.1.2 (fun b0_0=>K (B b0_0) [])
theorem f48_1_eq (es_1 : LL) (full_2 : Bool) (K : TV→List Entry→Prop) : (f48_1_d es_1 full_2 (fun b0_0=>K (B b0_0) [])) = funcT f48_1_C Tryz.f48 [.w (.one (.p (.sl 3 es_1 full_2))),.w (.one (.p (.c (.func (.func 52) #[] #[]))))] [] K:=by kernel_rfl
set_option maxHeartbeats 4000000 in
theorem f48_1_ok0 : FnOk Tryz.prog glob 48 f48_1_G0:=by
  refine FnOk.of_text (C:=f48_1_C) tab_ok.ok (Known.add f85_1_G_ok (Known.none)) follows_ok (fn:=Tryz.f48) (by kernel_rfl) (by kernel_rfl) (by kernel_rfl) (fun c hc=>?_) fun tm hp K h=>?_
  · have e : c = bodyOf Tryz.f48:=Option.some.inj (hc.symm.trans (by kernel_rfl))
    subst e
    exact ⟨LoopsOk.of [] (by kernel_rfl) trivial,TailsOk.of (tab:=f48_1_tab) rfl [] (by kernel_rfl) trivial⟩
  · unfold f48_1_G0 at h
    obtain ⟨xx,yy,rfl,rfl,h⟩:=getS_elim h
    have e:=(f48_1_eq xx.1.1 xx.1.2 K).trans (show _ = funcT f48_1_C Tryz.f48 (mkR _ xx) (mkE _ yy) K by kernel_rfl)
    rw [← e]
    exact h.run
def f48_1_G : List TV→List Entry→(TV→List Entry→Prop)→Prop:=fun args H K=>bif isSig (sigOf args H) [5,1052,7] then f48_1_G0 args H K else f48_G args H K
theorem f48_1_G_ok : FnOk Tryz.prog glob 48 f48_1_G:=FnOk.or _ f48_1_ok0 f48_G_ok
def f51_d (n1 : Int) (s2 : ByteArray) (n3 n4 : Int) (n5 n6 : Int) (n7 n8 : Int) (n9 n10 : Int) (n11 n12 n13 : Int) (s14 : ByteArray) (n15 : Int) (es16 : LL) (full17 : Bool) (k0 : Bool→Prop) : Prop:=f48_1 es16 full17 k0
structure f51 (n1 : Int) (s2 : ByteArray) (n3 n4 : Int) (n5 n6 : Int) (n7 n8 : Int) (n9 n10 : Int) (n11 n12 n13 : Int) (s14 : ByteArray) (n15 : Int) (es16 : LL) (full17 : Bool) (k0 : Bool→Prop) : Prop where
  run : f51_d n1 s2 n3 n4 n5 n6 n7 n8 n9 n10 n11 n12 n13 s14 n15 es16 full17 k0
def f51_tab : List (Nat×Told):=[]
def f51_call : FuncId→List TV→List Entry→(TV→List Entry→Prop)→Prop:=addCall 48 f48_1_G (noCalls)
def f51_C : Ctx:=mkC [] [] [] [] [] false 0 true (lookL f51_tab) f51_call
def f51_G0 : List TV→List Entry→(TV→List Entry→Prop)→Prop:=fun tm hp K=>getS [.v (.one (.int .i64)),.v (.pagg [.str,.int .i64,.int .i64,.int .i64,.int .i64,.int .i64,.int .i64,.int .i64,.int .i64,.int .i64,.int .i64,.int .i64,.str,.int .i64,.sl 3])] [] tm hp fun (xx : (Int×((ByteArray×(Int×(Int×(Int×(Int×(Int×(Int×(Int×(Int×(Int×(Int×(Int×(ByteArray×(Int×((LL×Bool)×Unit)))))))))))))))×Unit))) (yy : Unit)=>f51 xx.1 xx.2.1.1 xx.2.1.2.1 xx.2.1.2.2.1 xx.2.1.2.2.2.1 xx.2.1.2.2.2.2.1 xx.2.1.2.2.2.2.2.1 xx.2.1.2.2.2.2.2.2.1 xx.2.1.2.2.2.2.2.2.2.1 xx.2.1.2.2.2.2.2.2.2.2.1 xx.2.1.2.2.2.2.2.2.2.2.2.1 xx.2.1.2.2.2.2.2.2.2.2.2.2.1 xx.2.1.2.2.2.2.2.2.2.2.2.2.2.1 xx.2.1.2.2.2.2.2.2.2.2.2.2.2.2.1 xx.2.1.2.2.2.2.2.2.2.2.2.2.2.2.2.1 xx.2.1.2.2.2.2.2.2.2.2.2.2.2.2.2.2.1.1 xx.2.1.2.2.2.2.2.2.2.2.2.2.2.2.2.2.1.2 (fun b0_0=>K (B b0_0) [])
theorem f51_eq (n_1 : Int) (s_2 : ByteArray) (n_3 n_4 : Int) (n_5 n_6 : Int) (n_7 n_8 : Int) (n_9 n_10 : Int) (n_11 n_12 n_13 : Int) (s_14 : ByteArray) (n_15 : Int) (es_16 : LL) (full_17 : Bool) (K : TV→List Entry→Prop) : (f51_d n_1 s_2 n_3 n_4 n_5 n_6 n_7 n_8 n_9 n_10 n_11 n_12 n_13 s_14 n_15 es_16 full_17 (fun b0_0=>K (B b0_0) [])) = funcT f51_C Tryz.f51 [I n_1,.w (.pagg [pS s_2,pI n_3,pI n_4,pI n_5,pI n_6,pI n_7,pI n_8,pI n_9,pI n_10,pI n_11,pI n_12,pI n_13,pS s_14,pI n_15,.sl 3 es_16 full_17])] [] K:=by kernel_rfl
set_option maxHeartbeats 4000000 in
theorem f51_ok0 : FnOk Tryz.prog glob 51 f51_G0:=by
  refine FnOk.of_text (C:=f51_C) tab_ok.ok (Known.add f48_1_G_ok (Known.none)) follows_ok (fn:=Tryz.f51) (by kernel_rfl) (by kernel_rfl) (by kernel_rfl) (fun c hc=>?_) fun tm hp K h=>?_
  · have e : c = bodyOf Tryz.f51:=Option.some.inj (hc.symm.trans (by kernel_rfl))
    subst e
    exact ⟨LoopsOk.of [] (by kernel_rfl) trivial,TailsOk.of (tab:=f51_tab) rfl [] (by kernel_rfl) trivial⟩
  · unfold f51_G0 at h
    obtain ⟨xx,yy,rfl,rfl,h⟩:=getS_elim h
    have e:=(f51_eq xx.1 xx.2.1.1 xx.2.1.2.1 xx.2.1.2.2.1 xx.2.1.2.2.2.1 xx.2.1.2.2.2.2.1 xx.2.1.2.2.2.2.2.1 xx.2.1.2.2.2.2.2.2.1 xx.2.1.2.2.2.2.2.2.2.1 xx.2.1.2.2.2.2.2.2.2.2.1 xx.2.1.2.2.2.2.2.2.2.2.2.1 xx.2.1.2.2.2.2.2.2.2.2.2.2.1 xx.2.1.2.2.2.2.2.2.2.2.2.2.2.1 xx.2.1.2.2.2.2.2.2.2.2.2.2.2.2.1 xx.2.1.2.2.2.2.2.2.2.2.2.2.2.2.2.1 xx.2.1.2.2.2.2.2.2.2.2.2.2.2.2.2.2.1.1 xx.2.1.2.2.2.2.2.2.2.2.2.2.2.2.2.2.1.2 K).trans (show _ = funcT f51_C Tryz.f51 (mkR _ xx) (mkE _ yy) K by kernel_rfl)
    rw [← e]
    exact h.run
abbrev f51_G:=f51_G0
theorem f51_G_ok : FnOk Tryz.prog glob 51 f51_G:=f51_ok0
def f40_7_p4b0 (n4 : Int) (es5 : LL) (full6 : Bool) (n7 n8 : Int) (N0 : Int→Prop) (k0 : Unit→Prop) (k1 : Unit→Prop) : Prop:=bB (decide (n8 < n7)) ((0≤n8∧n8 < (es5.length : Int))∧cS (ext (List.getD es5 (Int.toNat n8) []) 0 15) fun s10 r9=>cI .i64 r9 fun n12 r11=>cI .i64 r11 fun n14 r13=>cI .i64 r13 fun n16 r15=>cI .i64 r15 fun n18 r17=>cI .i64 r17 fun n20 r19=>cI .i64 r19 fun n22 r21=>cI .i64 r21 fun n24 r23=>cI .i64 r23 fun n26 r25=>cI .i64 r25 fun n28 r27=>cI .i64 r27 fun n30 r29=>cI .i64 r29 fun n32 r31=>cS r31 fun s34 r33=>cI .i64 r33 fun n36 r35=>cL 3 r35 fun es38 full39 r37=>nilC r37 <| f51 n8 s10 n12 n14 n16 n18 n20 n22 n24 n26 n28 n30 n32 s34 n36 es38 full39 (fun b40=>bB b40 (k0 ()) (N0 (w64 (n8 + 1))))) (k1 ())
def f40_7_p4 (n4 : Int) (es5 : LL) (full6 : Bool) (n7 : Int) (k0 : Unit→Prop) (k1 : Unit→Prop) : Int→Prop:=LoopP fun x N=>f40_7_p4b0 n4 es5 full6 n7 x (fun n8=>N n8) k0 k1
def f40_7_d (es1 : LL) (full2 : Bool) (n3 : Int) (k0 : Int→Prop) : Prop:=f40_7_p4 n3 es1 full2 (es1.length : Int) (fun (_ : Unit)=>k0 n3) (fun (_ : Unit)=>k0 0) 0
structure f40_7 (es1 : LL) (full2 : Bool) (n3 : Int) (k0 : Int→Prop) : Prop where
  run : f40_7_d es1 full2 n3 k0
def f40_7_p4L : Told:=fun s K=>match s with
  | ⟨tm,hp⟩=>getS [.skip 1,.v (.one (.int .i64)),.v (.one (.fn 51)),.skip 6,.v (.one (.sl 15)),.v (.one (.int .i64)),.v (.one (.int .i64)),.skip 10] [] tm hp fun (xx : (Unit×(Int×(Unit×(Unit×((LL×Bool)×(Int×(Int×(Unit×Unit))))))))) (yy : Unit)=>f40_7_p4 xx.2.1 xx.2.2.2.2.1.1 xx.2.2.2.2.1.2 xx.2.2.2.2.2.1 (fun (_ : Unit)=>K .ret ⟨mkS 22 [(6,I xx.2.1)],[]⟩) (fun (_ : Unit)=>K (.exit 0) ⟨mkS 22 [],[]⟩) xx.2.2.2.2.2.2.1
def f40_7_tab : List (Nat×Told):=[(4,f40_7_p4L)]
def f40_7_call : FuncId→List TV→List Entry→(TV→List Entry→Prop)→Prop:=addCall 51 f51_G (noCalls)
def f40_7_C : Ctx:=mkC [(4,[(0,[1,2,9,10,11]),(2,[6]),(3,[])])] [] [] [] [] false 0 true (lookL f40_7_tab) f40_7_call
def f40_7_p4_mk (n4 : Int) (es5 : LL) (full6 : Bool) (n7 x : Int) : St:=⟨mkS 22 [(1,I n4),(2,.w (.one (.p (.c (.func (.func 51) #[] #[]))))),(9,.w (.one (.p (.sl 15 es5 full6)))),(10,I n7),(11,I x)],[]⟩
theorem f40_7_p4e0 (n_6 : Int) (es_7 : LL) (full_8 : Bool) (n_9 n_10 : Int) (N : St→Prop) (K : TExit→St→Prop) : (f40_7_p4b0 n_6 es_7 full_8 n_9 n_10 (fun z4=>N (f40_7_p4_mk n_6 es_7 full_8 n_9 z4)) (fun (_ : Unit)=>K .ret ⟨mkS 22 [(6,I n_6)],[]⟩) (fun (_ : Unit)=>K (.exit 0) ⟨mkS 22 [],[]⟩)) = execT f40_7_C (bd Tryz.f40 0) (f40_7_p4_mk n_6 es_7 full_8 n_9 n_10) (loopK N (normK f40_7_C 4) fun e s=>K e (normOut f40_7_C 4 e s)):=by kernel_rfl
set_option maxHeartbeats 4000000 in
theorem f40_7_p4_ok : LoopOk f40_7_C (bd Tryz.f40 0):=by
  refine LoopOk.of f40_7_p4L (by kernel_rfl) fun σ K h=>?_
  have hk : loopKey (bd Tryz.f40 0) = 4:=by kernel_rfl
  rw [hk] at h ⊢
  generalize hs : normK f40_7_C 4 σ = s at h
  obtain ⟨tm,hp⟩:=s
  unfold f40_7_p4L at h
  dsimp only at h
  obtain ⟨xx,yy,rfl,rfl,h⟩:=getS_elim h
  refine iter_of (f40_7_p4_mk xx.2.1 xx.2.2.2.2.1.1 xx.2.2.2.2.1.2 xx.2.2.2.2.2.1) (fun x N h=>?_) rounds _ σ (hs.trans (by kernel_rfl)) (LoopP.run h)
  rw [← f40_7_p4e0 xx.2.1 xx.2.2.2.2.1.1 xx.2.2.2.2.1.2 xx.2.2.2.2.2.1 x N K]
  exact h
def f40_7_G0 : List TV→List Entry→(TV→List Entry→Prop)→Prop:=fun tm hp K=>getS [.v (.one (.sl 15)),.v (.one (.int .i64)),.v (.one (.fn 51))] [] tm hp fun (xx : ((LL×Bool)×(Int×(Unit×Unit)))) (yy : Unit)=>f40_7 xx.1.1 xx.1.2 xx.2.1 (fun n0_0=>K (I n0_0) [])
theorem f40_7_eq (es_11 : LL) (full_12 : Bool) (n_13 : Int) (K : TV→List Entry→Prop) : (f40_7_d es_11 full_12 n_13 (fun n0_0=>K (I n0_0) [])) = funcT f40_7_C Tryz.f40 [.w (.one (.p (.sl 15 es_11 full_12))),I n_13,.w (.one (.p (.c (.func (.func 51) #[] #[]))))] [] K:=by kernel_rfl
set_option maxHeartbeats 4000000 in
theorem f40_7_ok0 : FnOk Tryz.prog glob 40 f40_7_G0:=by
  refine FnOk.of_text (C:=f40_7_C) tab_ok.ok (Known.add f51_G_ok (Known.none)) follows_ok (fn:=Tryz.f40) (by kernel_rfl) (by kernel_rfl) (by kernel_rfl) (fun c hc=>?_) fun tm hp K h=>?_
  · have e : c = bodyOf Tryz.f40:=Option.some.inj (hc.symm.trans (by kernel_rfl))
    subst e
    exact ⟨LoopsOk.of [bd Tryz.f40 0] (by kernel_rfl) ⟨f40_7_p4_ok,trivial⟩,TailsOk.of (tab:=f40_7_tab) rfl [] (by kernel_rfl) trivial⟩
  · unfold f40_7_G0 at h
    obtain ⟨xx,yy,rfl,rfl,h⟩:=getS_elim h
    have e:=(f40_7_eq xx.1.1 xx.1.2 xx.2.1 K).trans (show _ = funcT f40_7_C Tryz.f40 (mkR _ xx) (mkE _ yy) K by kernel_rfl)
    rw [← e]
    exact h.run
def f40_7_G : List TV→List Entry→(TV→List Entry→Prop)→Prop:=fun args H K=>bif isSig (sigOf args H) [5,2,1051,7] then f40_7_G0 args H K else f40_6_G args H K
theorem f40_7_G_ok : FnOk Tryz.prog glob 40 f40_7_G:=FnOk.or _ f40_7_ok0 f40_6_G_ok
def f18_p4b0 (es5 : LL) (full6 : Bool) (es7 : LL) (full8 : Bool) (n9 n10 : Int) (es11 : LL) (full12 : Bool) (N0 : Int→Prop) (k0 : Int→Prop) (k1 : Unit→Prop) : Prop:=bB (decide (n10 < n9)) ((0≤n10∧n10 < (es7.length : Int))∧cS (ext (List.getD es7 (Int.toNat n10) []) 0 2) fun s14 r13=>cL 11 r13 fun es16 full17 r15=>nilC r15 <| f8 s14 es16 full17 (fun n18=>bB (n18 != 0) (k0 n18) (N0 (w64 (n10 + 1))))) (k1 ())
def f18_p4 (es5 : LL) (full6 : Bool) (es7 : LL) (full8 : Bool) (n9 : Int) (es11 : LL) (full12 : Bool) (k0 : Int→Prop) (k1 : Unit→Prop) : Int→Prop:=LoopP fun x N=>f18_p4b0 es5 full6 es7 full8 n9 x es11 full12 (fun n10=>N n10) k0 k1
def f18_p18b0 (es20 : LL) (full21 : Bool) (n22 : Int) (es23 : LL) (full24 : Bool) (N0 : Int→Prop) (k0 : Int→Prop) (k1 : Unit→Prop) : Prop:=bB (decide (n22 < (es23.length : Int))) ((0≤(w64 (n22 - 1))∧(w64 (n22 - 1)) < (es23.length : Int))∧oS (ext (List.getD es23 (Int.toNat (w64 (n22 - 1))) []) 0 1) fun s25=>(0≤n22∧n22 < (es23.length : Int))∧oS (ext (List.getD es23 (Int.toNat n22) []) 0 1) fun s26=>bB (!(Op.bytesLess s25.toList s26.toList)) (k0 5) (N0 (w64 (n22 + 1)))) (k1 ())
def f18_p18 (es20 : LL) (full21 : Bool) (es23 : LL) (full24 : Bool) (k0 : Int→Prop) (k1 : Unit→Prop) : Int→Prop:=LoopP fun x N=>f18_p18b0 es20 full21 x es23 full24 (fun n22=>N n22) k0 k1
def f18_p40b0 (es37 : LL) (full38 : Bool) (es39 : LL) (full40 : Bool) (n41 n42 : Int) (N0 : Int→Prop) (k0 : Int→Prop) (k1 : Unit→Prop) : Prop:=bB (decide (n42 < n41)) ((0≤n42∧n42 < (es39.length : Int))∧cS (ext (List.getD es39 (Int.toNat n42) []) 0 15) fun s44 r43=>cI .i64 r43 fun n46 r45=>cI .i64 r45 fun n48 r47=>cI .i64 r47 fun n50 r49=>cI .i64 r49 fun n52 r51=>cI .i64 r51 fun n54 r53=>cI .i64 r53 fun n56 r55=>cI .i64 r55 fun n58 r57=>cI .i64 r57 fun n60 r59=>cI .i64 r59 fun n62 r61=>cI .i64 r61 fun n64 r63=>cI .i64 r63 fun n66 r65=>cS r65 fun s68 r67=>cI .i64 r67 fun n70 r69=>cL 3 r69 fun es72 full73 r71=>nilC r71 <| f30 n46 n48 n50 n52 n54 n56 n58 n60 n62 n64 n66 (fun n74=>bB (n74 != 0) (k0 n74) (N0 (w64 (n42 + 1))))) (k1 ())
def f18_p40 (es37 : LL) (full38 : Bool) (es39 : LL) (full40 : Bool) (n41 : Int) (k0 : Int→Prop) (k1 : Unit→Prop) : Int→Prop:=LoopP fun x N=>f18_p40b0 es37 full38 es39 full40 n41 x (fun n42=>N n42) k0 k1
def f18_d (es1 : LL) (full2 : Bool) (es3 : LL) (full4 : Bool) (k0 : Int→Prop) : Prop:=f18_p4 es1 full2 es3 full4 (es3.length : Int) es3 full4 k0 (fun (_ : Unit)=>f18_p18 es1 full2 es3 full4 k0 (fun (_ : Unit)=>bB (decide ((es1.length : Int) > 64)) (k0 7) (f40 es1 full2 7 (fun n28=>f40_1 es1 full2 4 (fun n29=>f40_2 es1 full2 5 MP.new (fun n30 m31=>f40_3 es1 full2 10 (fun n32=>f40_4 es1 full2 3 es3 full4 (fun n33 es34 full35=>f39 [[pI n28],[pI n29],[pI n30],[pI n32],[pI n33]] false (fun n36=>bB (n36 != 0) (k0 n36) (f18_p40 es1 full2 es1 full2 (es1.length : Int) k0 (fun (_ : Unit)=>f40_5 es1 full2 6 (fun n76=>f40_6 es1 full2 5 (fun n77=>f40_7 es1 full2 11 (fun n78=>f39 [[pI n76],[pI n77],[pI n78]] false k0)))) 0))))))))) 1) 0
structure f18 (es1 : LL) (full2 : Bool) (es3 : LL) (full4 : Bool) (k0 : Int→Prop) : Prop where
  run : f18_d es1 full2 es3 full4 k0
def f18_p4L : Told:=fun s K=>match s with
  | ⟨tm,hp⟩=>getS [.v (.one (.sl 15)),.skip 2,.v (.one (.ptr 0 0 0)),.skip 10,.v (.one (.sl 2)),.v (.one (.int .i64)),.v (.one (.int .i64)),.skip 69] [.box [.sl 2]] tm hp fun (xx : ((LL×Bool)×(Unit×(Unit×(Unit×((LL×Bool)×(Int×(Int×(Unit×Unit))))))))) (yy : (((LL×Bool)×Unit)×Unit))=>f18_p4 xx.1.1 xx.1.2 xx.2.2.2.2.1.1 xx.2.2.2.2.1.2 xx.2.2.2.2.2.1 yy.1.1.1 yy.1.1.2 (fun n0_0=>K .ret ⟨mkS 86 [(4,I n0_0)],[]⟩) (fun (_ : Unit)=>K (.exit 0) ⟨mkS 86 [(0,.w (.one (.p (.sl 15 xx.1.1 xx.1.2)))),(3,.w (.one (.ptr 0 0 0)))],[.box [.p (.sl 2 yy.1.1.1 yy.1.1.2)]]⟩) xx.2.2.2.2.2.2.1
def f18_p18L : Told:=fun s K=>match s with
  | ⟨tm,hp⟩=>getS [.v (.one (.sl 15)),.skip 2,.v (.one (.ptr 0 0 0)),.skip 4,.v (.one (.int .i64)),.skip 77] [.box [.sl 2]] tm hp fun (xx : ((LL×Bool)×(Unit×(Unit×(Unit×(Int×(Unit×Unit))))))) (yy : (((LL×Bool)×Unit)×Unit))=>f18_p18 xx.1.1 xx.1.2 yy.1.1.1 yy.1.1.2 (fun n0_1=>K .ret ⟨mkS 86 [(4,I n0_1)],[]⟩) (fun (_ : Unit)=>K (.exit 2) ⟨mkS 86 [(0,.w (.one (.p (.sl 15 xx.1.1 xx.1.2)))),(3,.w (.one (.ptr 0 0 0)))],[.box [.p (.sl 2 yy.1.1.1 yy.1.1.2)]]⟩) xx.2.2.2.2.1
def f18_p40L : Told:=fun s K=>match s with
  | ⟨tm,hp⟩=>getS [.v (.one (.sl 15)),.skip 64,.v (.one (.sl 15)),.v (.one (.int .i64)),.v (.one (.int .i64)),.skip 18] [] tm hp fun (xx : ((LL×Bool)×(Unit×((LL×Bool)×(Int×(Int×(Unit×Unit))))))) (yy : Unit)=>f18_p40 xx.1.1 xx.1.2 xx.2.2.1.1 xx.2.2.1.2 xx.2.2.2.1 (fun n0_2=>K .ret ⟨mkS 86 [(4,I n0_2)],[]⟩) (fun (_ : Unit)=>K (.exit 4) ⟨mkS 86 [(0,.w (.one (.p (.sl 15 xx.1.1 xx.1.2))))],[]⟩) xx.2.2.2.2.1
def f18_tab : List (Nat×Told):=[(4,f18_p4L),(18,f18_p18L),(40,f18_p40L)]
def f18_call : FuncId→List TV→List Entry→(TV→List Entry→Prop)→Prop:=addCall 40 f40_7_G (addCall 39 f39_G (addCall 30 f30_G (addCall 8 f8_G (noCalls))))
def f18_C : Ctx:=mkC [(4,[(0,[0,3,14,15,16]),(2,[4]),(3,[0,3])]),(18,[(0,[0,3,8]),(2,[4]),(5,[0,3])]),(40,[(0,[0,65,66,67]),(2,[4]),(7,[0])])] [] [] [] [] false 0 true (lookL f18_tab) f18_call
def f18_p4_mk (es5 : LL) (full6 : Bool) (es7 : LL) (full8 : Bool) (n9 : Int) (es11 : LL) (full12 : Bool) (x : Int) : St:=⟨mkS 86 [(0,.w (.one (.p (.sl 15 es5 full6)))),(3,.w (.one (.ptr 0 0 0))),(14,.w (.one (.p (.sl 2 es7 full8)))),(15,I n9),(16,I x)],[.box [.p (.sl 2 es11 full12)]]⟩
theorem f18_p4e0 (es_12 : LL) (full_13 : Bool) (es_14 : LL) (full_15 : Bool) (n_16 n_17 : Int) (es_18 : LL) (full_19 : Bool) (N : St→Prop) (K : TExit→St→Prop) : (f18_p4b0 es_12 full_13 es_14 full_15 n_16 n_17 es_18 full_19 (fun z5=>N (f18_p4_mk es_12 full_13 es_14 full_15 n_16 es_18 full_19 z5)) (fun n0_20=>K .ret ⟨mkS 86 [(4,I n0_20)],[]⟩) (fun (_ : Unit)=>K (.exit 0) ⟨mkS 86 [(0,.w (.one (.p (.sl 15 es_12 full_13)))),(3,.w (.one (.ptr 0 0 0)))],[.box [.p (.sl 2 es_18 full_19)]]⟩)) = execT f18_C (bd Tryz.f18 0) (f18_p4_mk es_12 full_13 es_14 full_15 n_16 es_18 full_19 n_17) (loopK N (normK f18_C 4) fun e s=>K e (normOut f18_C 4 e s)):=by kernel_rfl
def f18_p18_mk (es20 : LL) (full21 : Bool) (es23 : LL) (full24 : Bool) (x : Int) : St:=⟨mkS 86 [(0,.w (.one (.p (.sl 15 es20 full21)))),(3,.w (.one (.ptr 0 0 0))),(8,I x)],[.box [.p (.sl 2 es23 full24)]]⟩
theorem f18_p18e0 (es_26 : LL) (full_27 : Bool) (n_28 : Int) (es_29 : LL) (full_30 : Bool) (N : St→Prop) (K : TExit→St→Prop) : (f18_p18b0 es_26 full_27 n_28 es_29 full_30 (fun z2=>N (f18_p18_mk es_26 full_27 es_29 full_30 z2)) (fun n0_31=>K .ret ⟨mkS 86 [(4,I n0_31)],[]⟩) (fun (_ : Unit)=>K (.exit 2) ⟨mkS 86 [(0,.w (.one (.p (.sl 15 es_26 full_27)))),(3,.w (.one (.ptr 0 0 0)))],[.box [.p (.sl 2 es_29 full_30)]]⟩)) = execT f18_C (bd Tryz.f18 1) (f18_p18_mk es_26 full_27 es_29 full_30 n_28) (loopK N (normK f18_C 18) fun e s=>K e (normOut f18_C 18 e s)):=by kernel_rfl
def f18_p40_mk (es37 : LL) (full38 : Bool) (es39 : LL) (full40 : Bool) (n41 x : Int) : St:=⟨mkS 86 [(0,.w (.one (.p (.sl 15 es37 full38)))),(65,.w (.one (.p (.sl 15 es39 full40)))),(66,I n41),(67,I x)],[]⟩
theorem f18_p40e0 (es_38 : LL) (full_39 : Bool) (es_40 : LL) (full_41 : Bool) (n_42 n_43 : Int) (N : St→Prop) (K : TExit→St→Prop) : (f18_p40b0 es_38 full_39 es_40 full_41 n_42 n_43 (fun z5=>N (f18_p40_mk es_38 full_39 es_40 full_41 n_42 z5)) (fun n0_44=>K .ret ⟨mkS 86 [(4,I n0_44)],[]⟩) (fun (_ : Unit)=>K (.exit 4) ⟨mkS 86 [(0,.w (.one (.p (.sl 15 es_38 full_39))))],[]⟩)) = execT f18_C (bd Tryz.f18 2) (f18_p40_mk es_38 full_39 es_40 full_41 n_42 n_43) (loopK N (normK f18_C 40) fun e s=>K e (normOut f18_C 40 e s)):=by kernel_rfl
set_option maxHeartbeats 4000000 in
theorem f18_p4_ok : LoopOk f18_C (bd Tryz.f18 0):=by
  refine LoopOk.of f18_p4L (by kernel_rfl) fun σ K h=>?_
  have hk : loopKey (bd Tryz.f18 0) = 4:=by kernel_rfl
  rw [hk] at h ⊢
  generalize hs : normK f18_C 4 σ = s at h
  obtain ⟨tm,hp⟩:=s
  unfold f18_p4L at h
  dsimp only at h
  obtain ⟨xx,yy,rfl,rfl,h⟩:=getS_elim h
  refine iter_of (f18_p4_mk xx.1.1 xx.1.2 xx.2.2.2.2.1.1 xx.2.2.2.2.1.2 xx.2.2.2.2.2.1 yy.1.1.1 yy.1.1.2) (fun x N h=>?_) rounds _ σ (hs.trans (by kernel_rfl)) (LoopP.run h)
  rw [← f18_p4e0 xx.1.1 xx.1.2 xx.2.2.2.2.1.1 xx.2.2.2.2.1.2 xx.2.2.2.2.2.1 x yy.1.1.1 yy.1.1.2 N K]
  exact h
set_option maxHeartbeats 4000000 in
theorem f18_p18_ok : LoopOk f18_C (bd Tryz.f18 1):=by
  refine LoopOk.of f18_p18L (by kernel_rfl) fun σ K h=>?_
  have hk : loopKey (bd Tryz.f18 1) = 18:=by kernel_rfl
  rw [hk] at h ⊢
  generalize hs : normK f18_C 18 σ = s at h
  obtain ⟨tm,hp⟩:=s
  unfold f18_p18L at h
  dsimp only at h
  obtain ⟨xx,yy,rfl,rfl,h⟩:=getS_elim h
  refine iter_of (f18_p18_mk xx.1.1 xx.1.2 yy.1.1.1 yy.1.1.2) (fun x N h=>?_) rounds _ σ (hs.trans (by kernel_rfl)) (LoopP.run h)
  rw [← f18_p18e0 xx.1.1 xx.1.2 x yy.1.1.1 yy.1.1.2 N K]
  exact h
set_option maxHeartbeats 4000000 in
theorem f18_p40_ok : LoopOk f18_C (bd Tryz.f18 2):=by
  refine LoopOk.of f18_p40L (by kernel_rfl) fun σ K h=>?_
  have hk : loopKey (bd Tryz.f18 2) = 40:=by kernel_rfl
  rw [hk] at h ⊢
  generalize hs : normK f18_C 40 σ = s at h
  obtain ⟨tm,hp⟩:=s
  unfold f18_p40L at h
  dsimp only at h
  obtain ⟨xx,yy,rfl,rfl,h⟩:=getS_elim h
  refine iter_of (f18_p40_mk xx.1.1 xx.1.2 xx.2.2.1.1 xx.2.2.1.2 xx.2.2.2.1) (fun x N h=>?_) rounds _ σ (hs.trans (by kernel_rfl)) (LoopP.run h)
  rw [← f18_p40e0 xx.1.1 xx.1.2 xx.2.2.1.1 xx.2.2.1.2 xx.2.2.2.1 x N K]
  exact h
def f18_G0 : List TV→List Entry→(TV→List Entry→Prop)→Prop:=fun tm hp K=>getS [.v (.one (.sl 15)),.v (.one (.sl 2))] [] tm hp fun (xx : ((LL×Bool)×((LL×Bool)×Unit))) (yy : Unit)=>f18 xx.1.1 xx.1.2 xx.2.1.1 xx.2.1.2 (fun n0_3=>K (I n0_3) [])
theorem f18_eq (es_45 : LL) (full_46 : Bool) (es_47 : LL) (full_48 : Bool) (K : TV→List Entry→Prop) : (f18_d es_45 full_46 es_47 full_48 (fun n0_3=>K (I n0_3) [])) = funcT f18_C Tryz.f18 [.w (.one (.p (.sl 15 es_45 full_46))),.w (.one (.p (.sl 2 es_47 full_48)))] [] K:=by kernel_rfl
set_option maxHeartbeats 4000000 in
theorem f18_ok0 : FnOk Tryz.prog glob 18 f18_G0:=by
  refine FnOk.of_text (C:=f18_C) tab_ok.ok (Known.add f40_7_G_ok (Known.add f39_G_ok (Known.add f30_G_ok (Known.add f8_G_ok (Known.none))))) follows_ok (fn:=Tryz.f18) (by kernel_rfl) (by kernel_rfl) (by kernel_rfl) (fun c hc=>?_) fun tm hp K h=>?_
  · have e : c = bodyOf Tryz.f18:=Option.some.inj (hc.symm.trans (by kernel_rfl))
    subst e
    exact ⟨LoopsOk.of [bd Tryz.f18 0,bd Tryz.f18 1,bd Tryz.f18 2] (by kernel_rfl) ⟨f18_p4_ok,f18_p18_ok,f18_p40_ok,trivial⟩,TailsOk.of (tab:=f18_tab) rfl [] (by kernel_rfl) trivial⟩
  · unfold f18_G0 at h
    obtain ⟨xx,yy,rfl,rfl,h⟩:=getS_elim h
    have e:=(f18_eq xx.1.1 xx.1.2 xx.2.1.1 xx.2.1.2 K).trans (show _ = funcT f18_C Tryz.f18 (mkR _ xx) (mkE _ yy) K by kernel_rfl)
    rw [← e]
    exact h.run
abbrev f18_G:=f18_G0
theorem f18_G_ok : FnOk Tryz.prog glob 18 f18_G:=f18_ok0
def f54_p4b0 (es3 : LL) (full4 : Bool) (n5 : Int) (N0 : Int→Prop) (k0 : Int→Prop) (k1 : Unit→Prop) : Prop:=bB (decide (n5 < (es3.length : Int))) ((0≤n5∧n5 < (es3.length : Int))∧cS (ext (List.getD es3 (Int.toNat n5) []) 0 2) fun s7 r6=>cL 11 r6 fun es9 full10 r8=>nilC r8 <| f9 s7 es9 full10 (fun n11=>bB (n11 != 0) (k0 n11) (N0 (w64 (n5 + 1))))) (k1 ())
def f54_p4 (es3 : LL) (full4 : Bool) (k0 : Int→Prop) (k1 : Unit→Prop) : Int→Prop:=LoopP fun x N=>f54_p4b0 es3 full4 x (fun n5=>N n5) k0 k1
def f54_p16b0 (es13 : LL) (full14 : Bool) (n15 : Int) (N0 : Int→Prop) (k0 : Int→Prop) (k1 : Unit→Prop) : Prop:=bB (decide (n15 < (es13.length : Int))) ((0≤(w64 (n15 - 1))∧(w64 (n15 - 1)) < (es13.length : Int))∧oS (ext (List.getD es13 (Int.toNat (w64 (n15 - 1))) []) 0 1) fun s16=>(0≤n15∧n15 < (es13.length : Int))∧oS (ext (List.getD es13 (Int.toNat n15) []) 0 1) fun s17=>bB (!(Op.bytesLess s16.toList s17.toList)) (k0 5) (N0 (w64 (n15 + 1)))) (k1 ())
def f54_p16 (es13 : LL) (full14 : Bool) (k0 : Int→Prop) (k1 : Unit→Prop) : Int→Prop:=LoopP fun x N=>f54_p16b0 es13 full14 x (fun n15=>N n15) k0 k1
def f54_d (es1 : LL) (full2 : Bool) (k0 : Int→Prop) : Prop:=f54_p4 es1 full2 k0 (fun (_ : Unit)=>f54_p16 es1 full2 k0 (fun (_ : Unit)=>k0 0) 1) 0
structure f54 (es1 : LL) (full2 : Bool) (k0 : Int→Prop) : Prop where
  run : f54_d es1 full2 k0
def f54_p4L : Told:=fun s K=>match s with
  | ⟨tm,hp⟩=>getS [.v (.one (.sl 2)),.skip 2,.v (.one (.int .i64)),.skip 34] [] tm hp fun (xx : ((LL×Bool)×(Unit×(Int×(Unit×Unit))))) (yy : Unit)=>f54_p4 xx.1.1 xx.1.2 (fun n0_0=>K .ret ⟨mkS 38 [(2,I n0_0)],[]⟩) (fun (_ : Unit)=>K (.exit 0) ⟨mkS 38 [(0,.w (.one (.p (.sl 2 xx.1.1 xx.1.2))))],[]⟩) xx.2.2.1
def f54_p16L : Told:=fun s K=>match s with
  | ⟨tm,hp⟩=>getS [.v (.one (.sl 2)),.skip 4,.v (.one (.int .i64)),.skip 32] [] tm hp fun (xx : ((LL×Bool)×(Unit×(Int×(Unit×Unit))))) (yy : Unit)=>f54_p16 xx.1.1 xx.1.2 (fun n0_1=>K .ret ⟨mkS 38 [(2,I n0_1)],[]⟩) (fun (_ : Unit)=>K (.exit 2) ⟨mkS 38 [],[]⟩) xx.2.2.1
def f54_tab : List (Nat×Told):=[(4,f54_p4L),(16,f54_p16L)]
def f54_call : FuncId→List TV→List Entry→(TV→List Entry→Prop)→Prop:=addCall 9 f9_G (noCalls)
def f54_C : Ctx:=mkC [(4,[(0,[0,3]),(2,[2]),(3,[0])]),(16,[(0,[0,5]),(2,[2]),(5,[])])] [] [] [] [] false 0 true (lookL f54_tab) f54_call
def f54_p4_mk (es3 : LL) (full4 : Bool) (x : Int) : St:=⟨mkS 38 [(0,.w (.one (.p (.sl 2 es3 full4)))),(3,I x)],[]⟩
theorem f54_p4e0 (es_6 : LL) (full_7 : Bool) (n_8 : Int) (N : St→Prop) (K : TExit→St→Prop) : (f54_p4b0 es_6 full_7 n_8 (fun z2=>N (f54_p4_mk es_6 full_7 z2)) (fun n0_9=>K .ret ⟨mkS 38 [(2,I n0_9)],[]⟩) (fun (_ : Unit)=>K (.exit 0) ⟨mkS 38 [(0,.w (.one (.p (.sl 2 es_6 full_7))))],[]⟩)) = execT f54_C (bd Tryz.f54 0) (f54_p4_mk es_6 full_7 n_8) (loopK N (normK f54_C 4) fun e s=>K e (normOut f54_C 4 e s)):=by kernel_rfl
def f54_p16_mk (es13 : LL) (full14 : Bool) (x : Int) : St:=⟨mkS 38 [(0,.w (.one (.p (.sl 2 es13 full14)))),(5,I x)],[]⟩
theorem f54_p16e0 (es_13 : LL) (full_14 : Bool) (n_15 : Int) (N : St→Prop) (K : TExit→St→Prop) : (f54_p16b0 es_13 full_14 n_15 (fun z2=>N (f54_p16_mk es_13 full_14 z2)) (fun n0_16=>K .ret ⟨mkS 38 [(2,I n0_16)],[]⟩) (fun (_ : Unit)=>K (.exit 2) ⟨mkS 38 [],[]⟩)) = execT f54_C (bd Tryz.f54 1) (f54_p16_mk es_13 full_14 n_15) (loopK N (normK f54_C 16) fun e s=>K e (normOut f54_C 16 e s)):=by kernel_rfl
set_option maxHeartbeats 4000000 in
theorem f54_p4_ok : LoopOk f54_C (bd Tryz.f54 0):=by
  refine LoopOk.of f54_p4L (by kernel_rfl) fun σ K h=>?_
  have hk : loopKey (bd Tryz.f54 0) = 4:=by kernel_rfl
  rw [hk] at h ⊢
  generalize hs : normK f54_C 4 σ = s at h
  obtain ⟨tm,hp⟩:=s
  unfold f54_p4L at h
  dsimp only at h
  obtain ⟨xx,yy,rfl,rfl,h⟩:=getS_elim h
  refine iter_of (f54_p4_mk xx.1.1 xx.1.2) (fun x N h=>?_) rounds _ σ (hs.trans (by kernel_rfl)) (LoopP.run h)
  rw [← f54_p4e0 xx.1.1 xx.1.2 x N K]
  exact h
set_option maxHeartbeats 4000000 in
theorem f54_p16_ok : LoopOk f54_C (bd Tryz.f54 1):=by
  refine LoopOk.of f54_p16L (by kernel_rfl) fun σ K h=>?_
  have hk : loopKey (bd Tryz.f54 1) = 16:=by kernel_rfl
  rw [hk] at h ⊢
  generalize hs : normK f54_C 16 σ = s at h
  obtain ⟨tm,hp⟩:=s
  unfold f54_p16L at h
  dsimp only at h
  obtain ⟨xx,yy,rfl,rfl,h⟩:=getS_elim h
  refine iter_of (f54_p16_mk xx.1.1 xx.1.2) (fun x N h=>?_) rounds _ σ (hs.trans (by kernel_rfl)) (LoopP.run h)
  rw [← f54_p16e0 xx.1.1 xx.1.2 x N K]
  exact h
def f54_G0 : List TV→List Entry→(TV→List Entry→Prop)→Prop:=fun tm hp K=>getS [.v (.one (.sl 2))] [] tm hp fun (xx : ((LL×Bool)×Unit)) (yy : Unit)=>f54 xx.1.1 xx.1.2 (fun n0_2=>K (I n0_2) [])
theorem f54_eq (es_17 : LL) (full_18 : Bool) (K : TV→List Entry→Prop) : (f54_d es_17 full_18 (fun n0_2=>K (I n0_2) [])) = funcT f54_C Tryz.f54 [.w (.one (.p (.sl 2 es_17 full_18)))] [] K:=by kernel_rfl
set_option maxHeartbeats 4000000 in
theorem f54_ok0 : FnOk Tryz.prog glob 54 f54_G0:=by
  refine FnOk.of_text (C:=f54_C) tab_ok.ok (Known.add f9_G_ok (Known.none)) follows_ok (fn:=Tryz.f54) (by kernel_rfl) (by kernel_rfl) (by kernel_rfl) (fun c hc=>?_) fun tm hp K h=>?_
  · have e : c = bodyOf Tryz.f54:=Option.some.inj (hc.symm.trans (by kernel_rfl))
    subst e
    exact ⟨LoopsOk.of [bd Tryz.f54 0,bd Tryz.f54 1] (by kernel_rfl) ⟨f54_p4_ok,f54_p16_ok,trivial⟩,TailsOk.of (tab:=f54_tab) rfl [] (by kernel_rfl) trivial⟩
  · unfold f54_G0 at h
    obtain ⟨xx,yy,rfl,rfl,h⟩:=getS_elim h
    have e:=(f54_eq xx.1.1 xx.1.2 K).trans (show _ = funcT f54_C Tryz.f54 (mkR _ xx) (mkE _ yy) K by kernel_rfl)
    rw [← e]
    exact h.run
abbrev f54_G:=f54_G0
theorem f54_G_ok : FnOk Tryz.prog glob 54 f54_G:=f54_ok0
def f86_p4b0 (es4 : LL) (full5 : Bool) (s6 : ByteArray) (n7 : Int) (s8 : ByteArray) (N0 : Int→Prop) (k0 : Bool→ByteArray→(LL)→Bool→Prop) (k1 : Unit→Prop) : Prop:=bB (decide (n7 < (es4.length : Int))) ((0≤n7∧n7 < (es4.length : Int))∧oS (ext (List.getD es4 (Int.toNat n7) []) 0 1) fun s9=>bB (s9.toList == s6.toList) ((0≤n7∧n7 < (es4.length : Int))∧cS (ext (List.getD es4 (Int.toNat n7) []) 0 2) fun s11 r10=>cL 11 r10 fun es13 full14 r12=>nilC r12 <| k0 true s11 es13 full14) (N0 (w64 (n7 + 1)))) (k1 ())
def f86_p4 (es4 : LL) (full5 : Bool) (s6 s8 : ByteArray) (k0 : Bool→ByteArray→(LL)→Bool→Prop) (k1 : Unit→Prop) : Int→Prop:=LoopP fun x N=>f86_p4b0 es4 full5 s6 x s8 (fun n7=>N n7) k0 k1
def f86_d (es1 : LL) (full2 : Bool) (s3 : ByteArray) (k0 : ByteArray→(LL)→Bool→Bool→Prop) : Prop:=f86_p4 es1 full2 s3 (⟨#[]⟩ : ByteArray) (fun b15 s16 es17 full18=>k0 s16 es17 full18 b15) (fun (_ : Unit)=>k0 (⟨#[]⟩ : ByteArray) [] true false) 0
structure f86 (es1 : LL) (full2 : Bool) (s3 : ByteArray) (k0 : ByteArray→(LL)→Bool→Bool→Prop) : Prop where
  run : f86_d es1 full2 s3 k0
def f86_p4L : Told:=fun s K=>match s with
  | ⟨tm,hp⟩=>getS [.v (.one (.sl 2)),.v (.one (.str)),.skip 2,.v (.one (.ptr 0 0 0)),.skip 1,.v (.one (.int .i64)),.skip 18] [.box [.str,.nil 11]] tm hp fun (xx : ((LL×Bool)×(ByteArray×(Unit×(Unit×(Unit×(Int×(Unit×Unit)))))))) (yy : ((ByteArray×(Unit×Unit))×Unit))=>f86_p4 xx.1.1 xx.1.2 xx.2.1 yy.1.1 (fun b0_0 s0_1 es0_2 full0_3=>K .ret ⟨mkS 25 [(4,.w (.one (.ptr 0 0 0))),(5,B b0_0)],[.box [.p (pS s0_1),.p (.sl 11 es0_2 full0_3)]]⟩) (fun (_ : Unit)=>K (.exit 0) ⟨mkS 25 [(4,.w (.one (.ptr 0 0 0)))],[.box [.p (pS yy.1.1),.p (.sl 11 [] true)]]⟩) xx.2.2.2.2.2.1
def f86_tab : List (Nat×Told):=[(4,f86_p4L)]
def f86_call : FuncId→List TV→List Entry→(TV→List Entry→Prop)→Prop:=noCalls
def f86_C : Ctx:=mkC [(4,[(0,[0,1,4,6]),(2,[4,5]),(3,[4])])] [] [] [] [] false 0 true (lookL f86_tab) f86_call
def f86_p4_mk (es4 : LL) (full5 : Bool) (s6 s8 : ByteArray) (x : Int) : St:=⟨mkS 25 [(0,.w (.one (.p (.sl 2 es4 full5)))),(1,S s6),(4,.w (.one (.ptr 0 0 0))),(6,I x)],[.box [.p (pS s8),.p (.sl 11 [] true)]]⟩
theorem f86_p4e0 (es_13 : LL) (full_14 : Bool) (s_15 : ByteArray) (n_16 : Int) (s_17 : ByteArray) (N : St→Prop) (K : TExit→St→Prop) : (f86_p4b0 es_13 full_14 s_15 n_16 s_17 (fun z3=>N (f86_p4_mk es_13 full_14 s_15 s_17 z3)) (fun b0_18 s0_19 es0_20 full0_21=>K .ret ⟨mkS 25 [(4,.w (.one (.ptr 0 0 0))),(5,B b0_18)],[.box [.p (pS s0_19),.p (.sl 11 es0_20 full0_21)]]⟩) (fun (_ : Unit)=>K (.exit 0) ⟨mkS 25 [(4,.w (.one (.ptr 0 0 0)))],[.box [.p (pS s_17),.p (.sl 11 [] true)]]⟩)) = execT f86_C (bd Tryz.f86 0) (f86_p4_mk es_13 full_14 s_15 s_17 n_16) (loopK N (normK f86_C 4) fun e s=>K e (normOut f86_C 4 e s)):=by kernel_rfl
set_option maxHeartbeats 4000000 in
theorem f86_p4_ok : LoopOk f86_C (bd Tryz.f86 0):=by
  refine LoopOk.of f86_p4L (by kernel_rfl) fun σ K h=>?_
  have hk : loopKey (bd Tryz.f86 0) = 4:=by kernel_rfl
  rw [hk] at h ⊢
  generalize hs : normK f86_C 4 σ = s at h
  obtain ⟨tm,hp⟩:=s
  unfold f86_p4L at h
  dsimp only at h
  obtain ⟨xx,yy,rfl,rfl,h⟩:=getS_elim h
  refine iter_of (f86_p4_mk xx.1.1 xx.1.2 xx.2.1 yy.1.1) (fun x N h=>?_) rounds _ σ (hs.trans (by kernel_rfl)) (LoopP.run h)
  rw [← f86_p4e0 xx.1.1 xx.1.2 xx.2.1 x yy.1.1 N K]
  exact h
def f86_G0 : List TV→List Entry→(TV→List Entry→Prop)→Prop:=fun tm hp K=>getS [.v (.one (.sl 2)),.v (.one (.str))] [] tm hp fun (xx : ((LL×Bool)×(ByteArray×Unit))) (yy : Unit)=>f86 xx.1.1 xx.1.2 xx.2.1 (fun s0_4 es0_5 full0_6 b0_7=>K (.tup [.pagg [pS s0_4,.sl 11 es0_5 full0_6],.one (.p (pB b0_7))]) [])
theorem f86_eq (es_22 : LL) (full_23 : Bool) (s_24 : ByteArray) (K : TV→List Entry→Prop) : (f86_d es_22 full_23 s_24 (fun s0_4 es0_5 full0_6 b0_7=>K (.tup [.pagg [pS s0_4,.sl 11 es0_5 full0_6],.one (.p (pB b0_7))]) [])) = funcT f86_C Tryz.f86 [.w (.one (.p (.sl 2 es_22 full_23))),S s_24] [] K:=by kernel_rfl
set_option maxHeartbeats 4000000 in
theorem f86_ok0 : FnOk Tryz.prog glob 86 f86_G0:=by
  refine FnOk.of_text (C:=f86_C) tab_ok.ok (Known.none) follows_ok (fn:=Tryz.f86) (by kernel_rfl) (by kernel_rfl) (by kernel_rfl) (fun c hc=>?_) fun tm hp K h=>?_
  · have e : c = bodyOf Tryz.f86:=Option.some.inj (hc.symm.trans (by kernel_rfl))
    subst e
    exact ⟨LoopsOk.of [bd Tryz.f86 0] (by kernel_rfl) ⟨f86_p4_ok,trivial⟩,TailsOk.of (tab:=f86_tab) rfl [] (by kernel_rfl) trivial⟩
  · unfold f86_G0 at h
    obtain ⟨xx,yy,rfl,rfl,h⟩:=getS_elim h
    have e:=(f86_eq xx.1.1 xx.1.2 xx.2.1 K).trans (show _ = funcT f86_C Tryz.f86 (mkR _ xx) (mkE _ yy) K by kernel_rfl)
    rw [← e]
    exact h.run
abbrev f86_G:=f86_G0
theorem f86_G_ok : FnOk Tryz.prog glob 86 f86_G:=f86_ok0
def f55_p4b0 (es5 : LL) (full6 : Bool) (es7 : LL) (full8 : Bool) (n9 : Int) (N0 : Int→Prop) (k0 : Int→Prop) (k1 : Unit→Prop) : Prop:=bB (decide (n9 < (es5.length : Int))) ((0≤n9∧n9 < (es5.length : Int))∧oS (ext (List.getD es5 (Int.toNat n9) []) 0 1) fun s10=>f31 s10 (fun b11=>bB (!b11) (k0 4) (N0 (w64 (n9 + 1))))) (k1 ())
def f55_p4 (es5 : LL) (full6 : Bool) (es7 : LL) (full8 : Bool) (k0 : Int→Prop) (k1 : Unit→Prop) : Int→Prop:=LoopP fun x N=>f55_p4b0 es5 full6 es7 full8 x (fun n9=>N n9) k0 k1
def f55_p20b0 (es18 : LL) (full19 : Bool) (es20 : LL) (full21 : Bool) (n22 n23 : Int) (N0 : Int→Prop) (k0 : Int→Prop) (k1 : Unit→Prop) : Prop:=bB (decide (n23 < n22)) ((0≤n22∧n22 < (es18.length : Int))∧oS (ext (List.getD es18 (Int.toNat n22) []) 0 1) fun s24=>(0≤n23∧n23 < (es18.length : Int))∧oS (ext (List.getD es18 (Int.toNat n23) []) 0 1) fun s25=>bB (s24.toList == s25.toList) (k0 5) (N0 (w64 (n23 + 1)))) (k1 ())
def f55_p20 (es18 : LL) (full19 : Bool) (es20 : LL) (full21 : Bool) (n22 : Int) (k0 : Int→Prop) (k1 : Unit→Prop) : Int→Prop:=LoopP fun x N=>f55_p20b0 es18 full19 es20 full21 n22 x (fun n23=>N n23) k0 k1
def f55_p14b0 (es13 : LL) (full14 : Bool) (es15 : LL) (full16 : Bool) (n17 : Int) (N0 : Int→Prop) (k0 : Int→Prop) (k1 : Unit→Prop) : Prop:=bB (decide (n17 < (es13.length : Int))) (f55_p20 es13 full14 es15 full16 n17 k0 (fun (_ : Unit)=>N0 (w64 (n17 + 1))) 0) (k1 ())
def f55_p14 (es13 : LL) (full14 : Bool) (es15 : LL) (full16 : Bool) (k0 : Int→Prop) (k1 : Unit→Prop) : Int→Prop:=LoopP fun x N=>f55_p14b0 es13 full14 es15 full16 x (fun n17=>N n17) k0 k1
def f55_p30b0 (es28 : LL) (full29 : Bool) (es30 : LL) (full31 : Bool) (n32 : Int) (N0 : Int→Prop) (k0 : Int→Prop) (k1 : Unit→Prop) : Prop:=bB (decide (n32 < (es28.length : Int))) ((0≤n32∧n32 < (es28.length : Int))∧oS (ext (List.getD es28 (Int.toNat n32) []) 12 1) fun s33=>bB (!(s33.toList == (⟨#[]⟩ : ByteArray).toList)) ((0≤n32∧n32 < (es28.length : Int))∧cI .i64 (ext (List.getD es28 (Int.toNat n32) []) 1 11) fun n35 r34=>cI .i64 r34 fun n37 r36=>cI .i64 r36 fun n39 r38=>cI .i64 r38 fun n41 r40=>cI .i64 r40 fun n43 r42=>cI .i64 r42 fun n45 r44=>cI .i64 r44 fun n47 r46=>cI .i64 r46 fun n49 r48=>cI .i64 r48 fun n51 r50=>cI .i64 r50 fun n53 r52=>cI .i64 r52 fun n55 r54=>nilC r54 <| bB (!((n35 == 0) && ((n37 == 0) && ((n39 == 0) && ((n41 == 0) && ((n43 == 0) && ((n45 == 0) && ((n47 == 0) && ((n49 == 0) && ((n51 == 0) && ((n53 == 0) && ((n55 == 0) && true)))))))))))) (k0 10) (N0 (w64 (n32 + 1)))) (N0 (w64 (n32 + 1)))) (k1 ())
def f55_p30 (es28 : LL) (full29 : Bool) (es30 : LL) (full31 : Bool) (k0 : Int→Prop) (k1 : Unit→Prop) : Int→Prop:=LoopP fun x N=>f55_p30b0 es28 full29 es30 full31 x (fun n32=>N n32) k0 k1
def f55_p40b0 (es57 : LL) (full58 : Bool) (es59 : LL) (full60 : Bool) (n61 : Int) (N0 : Int→Prop) (k0 : Int→Prop) (k1 : Unit→Prop) : Prop:=bB (decide (n61 < (es57.length : Int))) ((0≤n61∧n61 < (es57.length : Int))∧oS (ext (List.getD es57 (Int.toNat n61) []) 12 1) fun s62=>f86 es59 full60 s62 (fun s63 es64 full65 b66=>bB (!b66) ((0≤n61∧n61 < (es57.length : Int))∧oS (ext (List.getD es57 (Int.toNat n61) []) 12 1) fun s67=>bB (!(s67.toList == (⟨#[]⟩ : ByteArray).toList)) (k0 3) (N0 (w64 (n61 + 1)))) (N0 (w64 (n61 + 1))))) (k1 ())
def f55_p40 (es57 : LL) (full58 : Bool) (es59 : LL) (full60 : Bool) (k0 : Int→Prop) (k1 : Unit→Prop) : Int→Prop:=LoopP fun x N=>f55_p40b0 es57 full58 es59 full60 x (fun n61=>N n61) k0 k1
def f55_p52b0 (es69 : LL) (full70 : Bool) (n71 : Int) (N0 : Int→Prop) (k0 : Int→Prop) (k1 : Unit→Prop) : Prop:=bB (decide (n71 < (es69.length : Int))) ((0≤n71∧n71 < (es69.length : Int))∧cI .i64 (ext (List.getD es69 (Int.toNat n71) []) 1 11) fun n73 r72=>cI .i64 r72 fun n75 r74=>cI .i64 r74 fun n77 r76=>cI .i64 r76 fun n79 r78=>cI .i64 r78 fun n81 r80=>cI .i64 r80 fun n83 r82=>cI .i64 r82 fun n85 r84=>cI .i64 r84 fun n87 r86=>cI .i64 r86 fun n89 r88=>cI .i64 r88 fun n91 r90=>cI .i64 r90 fun n93 r92=>nilC r92 <| f32 n73 n75 n77 n79 n81 n83 n85 n87 n89 n91 n93 (fun n94=>bB (n94 != 0) (k0 n94) (N0 (w64 (n71 + 1))))) (k1 ())
def f55_p52 (es69 : LL) (full70 : Bool) (k0 : Int→Prop) (k1 : Unit→Prop) : Int→Prop:=LoopP fun x N=>f55_p52b0 es69 full70 x (fun n71=>N n71) k0 k1
def f55_d (es1 : LL) (full2 : Bool) (es3 : LL) (full4 : Bool) (k0 : Int→Prop) : Prop:=f55_p4 es1 full2 es3 full4 k0 (fun (_ : Unit)=>f55_p14 es1 full2 es3 full4 k0 (fun (_ : Unit)=>f55_p30 es1 full2 es3 full4 k0 (fun (_ : Unit)=>f55_p40 es1 full2 es3 full4 k0 (fun (_ : Unit)=>f55_p52 es1 full2 k0 (fun (_ : Unit)=>k0 0) 0) 0) 0) 0) 0
structure f55 (es1 : LL) (full2 : Bool) (es3 : LL) (full4 : Bool) (k0 : Int→Prop) : Prop where
  run : f55_d es1 full2 es3 full4 k0
def f55_p4L : Told:=fun s K=>match s with
  | ⟨tm,hp⟩=>getS [.v (.one (.sl 15)),.v (.one (.sl 2)),.skip 3,.v (.one (.int .i64)),.skip 105] [] tm hp fun (xx : ((LL×Bool)×((LL×Bool)×(Unit×(Int×(Unit×Unit)))))) (yy : Unit)=>f55_p4 xx.1.1 xx.1.2 xx.2.1.1 xx.2.1.2 (fun n0_0=>K .ret ⟨mkS 111 [(4,I n0_0)],[]⟩) (fun (_ : Unit)=>K (.exit 0) ⟨mkS 111 [(0,.w (.one (.p (.sl 15 xx.1.1 xx.1.2)))),(1,.w (.one (.p (.sl 2 xx.2.1.1 xx.2.1.2))))],[]⟩) xx.2.2.2.1
def f55_p20L : Told:=fun s K=>match s with
  | ⟨tm,hp⟩=>getS [.v (.one (.sl 15)),.v (.one (.sl 2)),.skip 4,.v (.one (.int .i64)),.v (.one (.int .i64)),.skip 103] [] tm hp fun (xx : ((LL×Bool)×((LL×Bool)×(Unit×(Int×(Int×(Unit×Unit))))))) (yy : Unit)=>f55_p20 xx.1.1 xx.1.2 xx.2.1.1 xx.2.1.2 xx.2.2.2.1 (fun n0_1=>K .ret ⟨mkS 111 [(4,I n0_1)],[]⟩) (fun (_ : Unit)=>K (.exit 4) ⟨mkS 111 [(0,.w (.one (.p (.sl 15 xx.1.1 xx.1.2)))),(1,.w (.one (.p (.sl 2 xx.2.1.1 xx.2.1.2)))),(6,I xx.2.2.2.1)],[]⟩) xx.2.2.2.2.1
def f55_p14L : Told:=fun s K=>match s with
  | ⟨tm,hp⟩=>getS [.v (.one (.sl 15)),.v (.one (.sl 2)),.skip 4,.v (.one (.int .i64)),.skip 104] [] tm hp fun (xx : ((LL×Bool)×((LL×Bool)×(Unit×(Int×(Unit×Unit)))))) (yy : Unit)=>f55_p14 xx.1.1 xx.1.2 xx.2.1.1 xx.2.1.2 (fun n0_2=>K .ret ⟨mkS 111 [(4,I n0_2)],[]⟩) (fun (_ : Unit)=>K (.exit 2) ⟨mkS 111 [(0,.w (.one (.p (.sl 15 xx.1.1 xx.1.2)))),(1,.w (.one (.p (.sl 2 xx.2.1.1 xx.2.1.2))))],[]⟩) xx.2.2.2.1
def f55_p30L : Told:=fun s K=>match s with
  | ⟨tm,hp⟩=>getS [.v (.one (.sl 15)),.v (.one (.sl 2)),.skip 6,.v (.one (.int .i64)),.skip 102] [] tm hp fun (xx : ((LL×Bool)×((LL×Bool)×(Unit×(Int×(Unit×Unit)))))) (yy : Unit)=>f55_p30 xx.1.1 xx.1.2 xx.2.1.1 xx.2.1.2 (fun n0_3=>K .ret ⟨mkS 111 [(4,I n0_3)],[]⟩) (fun (_ : Unit)=>K (.exit 6) ⟨mkS 111 [(0,.w (.one (.p (.sl 15 xx.1.1 xx.1.2)))),(1,.w (.one (.p (.sl 2 xx.2.1.1 xx.2.1.2))))],[]⟩) xx.2.2.2.1
def f55_p40L : Told:=fun s K=>match s with
  | ⟨tm,hp⟩=>getS [.v (.one (.sl 15)),.v (.one (.sl 2)),.skip 7,.v (.one (.int .i64)),.skip 101] [] tm hp fun (xx : ((LL×Bool)×((LL×Bool)×(Unit×(Int×(Unit×Unit)))))) (yy : Unit)=>f55_p40 xx.1.1 xx.1.2 xx.2.1.1 xx.2.1.2 (fun n0_4=>K .ret ⟨mkS 111 [(4,I n0_4)],[]⟩) (fun (_ : Unit)=>K (.exit 8) ⟨mkS 111 [(0,.w (.one (.p (.sl 15 xx.1.1 xx.1.2))))],[]⟩) xx.2.2.2.1
def f55_p52L : Told:=fun s K=>match s with
  | ⟨tm,hp⟩=>getS [.v (.one (.sl 15)),.skip 11,.v (.one (.int .i64)),.skip 98] [] tm hp fun (xx : ((LL×Bool)×(Unit×(Int×(Unit×Unit))))) (yy : Unit)=>f55_p52 xx.1.1 xx.1.2 (fun n0_5=>K .ret ⟨mkS 111 [(4,I n0_5)],[]⟩) (fun (_ : Unit)=>K (.exit 10) ⟨mkS 111 [],[]⟩) xx.2.2.1
def f55_tab : List (Nat×Told):=[(4,f55_p4L),(20,f55_p20L),(14,f55_p14L),(30,f55_p30L),(40,f55_p40L),(52,f55_p52L)]
def f55_call : FuncId→List TV→List Entry→(TV→List Entry→Prop)→Prop:=addCall 86 f86_G (addCall 32 f32_G (addCall 31 f31_G (noCalls)))
def f55_C : Ctx:=mkC [(4,[(0,[0,1,5]),(2,[4]),(3,[0,1])]),(20,[(0,[0,1,6,7]),(2,[4]),(5,[0,1]),(6,[0,1,6]),(7,[0,1,6])]),(14,[(0,[0,1,6]),(2,[4]),(5,[0,1])]),(30,[(0,[0,1,8]),(2,[4]),(9,[0,1])]),(40,[(0,[0,1,9]),(2,[4]),(11,[0])]),(52,[(0,[0,12]),(2,[4]),(13,[])])] [] [] [] [] false 0 true (lookL f55_tab) f55_call
def f55_p4_mk (es5 : LL) (full6 : Bool) (es7 : LL) (full8 : Bool) (x : Int) : St:=⟨mkS 111 [(0,.w (.one (.p (.sl 15 es5 full6)))),(1,.w (.one (.p (.sl 2 es7 full8)))),(5,I x)],[]⟩
theorem f55_p4e0 (es_12 : LL) (full_13 : Bool) (es_14 : LL) (full_15 : Bool) (n_16 : Int) (N : St→Prop) (K : TExit→St→Prop) : (f55_p4b0 es_12 full_13 es_14 full_15 n_16 (fun z4=>N (f55_p4_mk es_12 full_13 es_14 full_15 z4)) (fun n0_17=>K .ret ⟨mkS 111 [(4,I n0_17)],[]⟩) (fun (_ : Unit)=>K (.exit 0) ⟨mkS 111 [(0,.w (.one (.p (.sl 15 es_12 full_13)))),(1,.w (.one (.p (.sl 2 es_14 full_15))))],[]⟩)) = execT f55_C (bd Tryz.f55 0) (f55_p4_mk es_12 full_13 es_14 full_15 n_16) (loopK N (normK f55_C 4) fun e s=>K e (normOut f55_C 4 e s)):=by kernel_rfl
def f55_p20_mk (es18 : LL) (full19 : Bool) (es20 : LL) (full21 : Bool) (n22 x : Int) : St:=⟨mkS 111 [(0,.w (.one (.p (.sl 15 es18 full19)))),(1,.w (.one (.p (.sl 2 es20 full21)))),(6,I n22),(7,I x)],[]⟩
theorem f55_p20e0 (es_24 : LL) (full_25 : Bool) (es_26 : LL) (full_27 : Bool) (n_28 n_29 : Int) (N : St→Prop) (K : TExit→St→Prop) : (f55_p20b0 es_24 full_25 es_26 full_27 n_28 n_29 (fun z5=>N (f55_p20_mk es_24 full_25 es_26 full_27 n_28 z5)) (fun n0_30=>K .ret ⟨mkS 111 [(4,I n0_30)],[]⟩) (fun (_ : Unit)=>K (.exit 4) ⟨mkS 111 [(0,.w (.one (.p (.sl 15 es_24 full_25)))),(1,.w (.one (.p (.sl 2 es_26 full_27)))),(6,I n_28)],[]⟩)) = execT f55_C (bd Tryz.f55 2) (f55_p20_mk es_24 full_25 es_26 full_27 n_28 n_29) (loopK N (normK f55_C 20) fun e s=>K e (normOut f55_C 20 e s)):=by kernel_rfl
def f55_p14_mk (es13 : LL) (full14 : Bool) (es15 : LL) (full16 : Bool) (x : Int) : St:=⟨mkS 111 [(0,.w (.one (.p (.sl 15 es13 full14)))),(1,.w (.one (.p (.sl 2 es15 full16)))),(6,I x)],[]⟩
theorem f55_p14e0 (es_36 : LL) (full_37 : Bool) (es_38 : LL) (full_39 : Bool) (n_40 : Int) (N : St→Prop) (K : TExit→St→Prop) : (f55_p14b0 es_36 full_37 es_38 full_39 n_40 (fun z4=>N (f55_p14_mk es_36 full_37 es_38 full_39 z4)) (fun n0_41=>K .ret ⟨mkS 111 [(4,I n0_41)],[]⟩) (fun (_ : Unit)=>K (.exit 2) ⟨mkS 111 [(0,.w (.one (.p (.sl 15 es_36 full_37)))),(1,.w (.one (.p (.sl 2 es_38 full_39))))],[]⟩)) = execT f55_C (bd Tryz.f55 1) (f55_p14_mk es_36 full_37 es_38 full_39 n_40) (loopK N (normK f55_C 14) fun e s=>K e (normOut f55_C 14 e s)):=by kernel_rfl
def f55_p30_mk (es28 : LL) (full29 : Bool) (es30 : LL) (full31 : Bool) (x : Int) : St:=⟨mkS 111 [(0,.w (.one (.p (.sl 15 es28 full29)))),(1,.w (.one (.p (.sl 2 es30 full31)))),(8,I x)],[]⟩
theorem f55_p30e0 (es_47 : LL) (full_48 : Bool) (es_49 : LL) (full_50 : Bool) (n_51 : Int) (N : St→Prop) (K : TExit→St→Prop) : (f55_p30b0 es_47 full_48 es_49 full_50 n_51 (fun z4=>N (f55_p30_mk es_47 full_48 es_49 full_50 z4)) (fun n0_52=>K .ret ⟨mkS 111 [(4,I n0_52)],[]⟩) (fun (_ : Unit)=>K (.exit 6) ⟨mkS 111 [(0,.w (.one (.p (.sl 15 es_47 full_48)))),(1,.w (.one (.p (.sl 2 es_49 full_50))))],[]⟩)) = execT f55_C (bd Tryz.f55 3) (f55_p30_mk es_47 full_48 es_49 full_50 n_51) (loopK N (normK f55_C 30) fun e s=>K e (normOut f55_C 30 e s)):=by kernel_rfl
def f55_p40_mk (es57 : LL) (full58 : Bool) (es59 : LL) (full60 : Bool) (x : Int) : St:=⟨mkS 111 [(0,.w (.one (.p (.sl 15 es57 full58)))),(1,.w (.one (.p (.sl 2 es59 full60)))),(9,I x)],[]⟩
theorem f55_p40e0 (es_58 : LL) (full_59 : Bool) (es_60 : LL) (full_61 : Bool) (n_62 : Int) (N : St→Prop) (K : TExit→St→Prop) : (f55_p40b0 es_58 full_59 es_60 full_61 n_62 (fun z4=>N (f55_p40_mk es_58 full_59 es_60 full_61 z4)) (fun n0_63=>K .ret ⟨mkS 111 [(4,I n0_63)],[]⟩) (fun (_ : Unit)=>K (.exit 8) ⟨mkS 111 [(0,.w (.one (.p (.sl 15 es_58 full_59))))],[]⟩)) = execT f55_C (bd Tryz.f55 4) (f55_p40_mk es_58 full_59 es_60 full_61 n_62) (loopK N (normK f55_C 40) fun e s=>K e (normOut f55_C 40 e s)):=by kernel_rfl
def f55_p52_mk (es69 : LL) (full70 : Bool) (x : Int) : St:=⟨mkS 111 [(0,.w (.one (.p (.sl 15 es69 full70)))),(12,I x)],[]⟩
theorem f55_p52e0 (es_67 : LL) (full_68 : Bool) (n_69 : Int) (N : St→Prop) (K : TExit→St→Prop) : (f55_p52b0 es_67 full_68 n_69 (fun z2=>N (f55_p52_mk es_67 full_68 z2)) (fun n0_70=>K .ret ⟨mkS 111 [(4,I n0_70)],[]⟩) (fun (_ : Unit)=>K (.exit 10) ⟨mkS 111 [],[]⟩)) = execT f55_C (bd Tryz.f55 5) (f55_p52_mk es_67 full_68 n_69) (loopK N (normK f55_C 52) fun e s=>K e (normOut f55_C 52 e s)):=by kernel_rfl
set_option maxHeartbeats 4000000 in
theorem f55_p4_ok : LoopOk f55_C (bd Tryz.f55 0):=by
  refine LoopOk.of f55_p4L (by kernel_rfl) fun σ K h=>?_
  have hk : loopKey (bd Tryz.f55 0) = 4:=by kernel_rfl
  rw [hk] at h ⊢
  generalize hs : normK f55_C 4 σ = s at h
  obtain ⟨tm,hp⟩:=s
  unfold f55_p4L at h
  dsimp only at h
  obtain ⟨xx,yy,rfl,rfl,h⟩:=getS_elim h
  refine iter_of (f55_p4_mk xx.1.1 xx.1.2 xx.2.1.1 xx.2.1.2) (fun x N h=>?_) rounds _ σ (hs.trans (by kernel_rfl)) (LoopP.run h)
  rw [← f55_p4e0 xx.1.1 xx.1.2 xx.2.1.1 xx.2.1.2 x N K]
  exact h
set_option maxHeartbeats 4000000 in
theorem f55_p20_ok : LoopOk f55_C (bd Tryz.f55 2):=by
  refine LoopOk.of f55_p20L (by kernel_rfl) fun σ K h=>?_
  have hk : loopKey (bd Tryz.f55 2) = 20:=by kernel_rfl
  rw [hk] at h ⊢
  generalize hs : normK f55_C 20 σ = s at h
  obtain ⟨tm,hp⟩:=s
  unfold f55_p20L at h
  dsimp only at h
  obtain ⟨xx,yy,rfl,rfl,h⟩:=getS_elim h
  refine iter_of (f55_p20_mk xx.1.1 xx.1.2 xx.2.1.1 xx.2.1.2 xx.2.2.2.1) (fun x N h=>?_) rounds _ σ (hs.trans (by kernel_rfl)) (LoopP.run h)
  rw [← f55_p20e0 xx.1.1 xx.1.2 xx.2.1.1 xx.2.1.2 xx.2.2.2.1 x N K]
  exact h
set_option maxHeartbeats 4000000 in
theorem f55_p14_ok : LoopOk f55_C (bd Tryz.f55 1):=by
  refine LoopOk.of f55_p14L (by kernel_rfl) fun σ K h=>?_
  have hk : loopKey (bd Tryz.f55 1) = 14:=by kernel_rfl
  rw [hk] at h ⊢
  generalize hs : normK f55_C 14 σ = s at h
  obtain ⟨tm,hp⟩:=s
  unfold f55_p14L at h
  dsimp only at h
  obtain ⟨xx,yy,rfl,rfl,h⟩:=getS_elim h
  refine iter_of (f55_p14_mk xx.1.1 xx.1.2 xx.2.1.1 xx.2.1.2) (fun x N h=>?_) rounds _ σ (hs.trans (by kernel_rfl)) (LoopP.run h)
  rw [← f55_p14e0 xx.1.1 xx.1.2 xx.2.1.1 xx.2.1.2 x N K]
  exact h
set_option maxHeartbeats 4000000 in
theorem f55_p30_ok : LoopOk f55_C (bd Tryz.f55 3):=by
  refine LoopOk.of f55_p30L (by kernel_rfl) fun σ K h=>?_
  have hk : loopKey (bd Tryz.f55 3) = 30:=by kernel_rfl
  rw [hk] at h ⊢
  generalize hs : normK f55_C 30 σ = s at h
  obtain ⟨tm,hp⟩:=s
  unfold f55_p30L at h
  dsimp only at h
  obtain ⟨xx,yy,rfl,rfl,h⟩:=getS_elim h
  refine iter_of (f55_p30_mk xx.1.1 xx.1.2 xx.2.1.1 xx.2.1.2) (fun x N h=>?_) rounds _ σ (hs.trans (by kernel_rfl)) (LoopP.run h)
  rw [← f55_p30e0 xx.1.1 xx.1.2 xx.2.1.1 xx.2.1.2 x N K]
  exact h
set_option maxHeartbeats 4000000 in
theorem f55_p40_ok : LoopOk f55_C (bd Tryz.f55 4):=by
  refine LoopOk.of f55_p40L (by kernel_rfl) fun σ K h=>?_
  have hk : loopKey (bd Tryz.f55 4) = 40:=by kernel_rfl
  rw [hk] at h ⊢
  generalize hs : normK f55_C 40 σ = s at h
  obtain ⟨tm,hp⟩:=s
  unfold f55_p40L at h
  dsimp only at h
  obtain ⟨xx,yy,rfl,rfl,h⟩:=getS_elim h
  refine iter_of (f55_p40_mk xx.1.1 xx.1.2 xx.2.1.1 xx.2.1.2) (fun x N h=>?_) rounds _ σ (hs.trans (by kernel_rfl)) (LoopP.run h)
  rw [← f55_p40e0 xx.1.1 xx.1.2 xx.2.1.1 xx.2.1.2 x N K]
  exact h
set_option maxHeartbeats 4000000 in
theorem f55_p52_ok : LoopOk f55_C (bd Tryz.f55 5):=by
  refine LoopOk.of f55_p52L (by kernel_rfl) fun σ K h=>?_
  have hk : loopKey (bd Tryz.f55 5) = 52:=by kernel_rfl
  rw [hk] at h ⊢
  generalize hs : normK f55_C 52 σ = s at h
  obtain ⟨tm,hp⟩:=s
  unfold f55_p52L at h
  dsimp only at h
  obtain ⟨xx,yy,rfl,rfl,h⟩:=getS_elim h
  refine iter_of (f55_p52_mk xx.1.1 xx.1.2) (fun x N h=>?_) rounds _ σ (hs.trans (by kernel_rfl)) (LoopP.run h)
  rw [← f55_p52e0 xx.1.1 xx.1.2 x N K]
  exact h
def f55_G0 : List TV→List Entry→(TV→List Entry→Prop)→Prop:=fun tm hp K=>getS [.v (.one (.sl 15)),.v (.one (.sl 2))] [] tm hp fun (xx : ((LL×Bool)×((LL×Bool)×Unit))) (yy : Unit)=>f55 xx.1.1 xx.1.2 xx.2.1.1 xx.2.1.2 (fun n0_6=>K (I n0_6) [])
theorem f55_eq (es_71 : LL) (full_72 : Bool) (es_73 : LL) (full_74 : Bool) (K : TV→List Entry→Prop) : (f55_d es_71 full_72 es_73 full_74 (fun n0_6=>K (I n0_6) [])) = funcT f55_C Tryz.f55 [.w (.one (.p (.sl 15 es_71 full_72))),.w (.one (.p (.sl 2 es_73 full_74)))] [] K:=by kernel_rfl
set_option maxHeartbeats 4000000 in
theorem f55_ok0 : FnOk Tryz.prog glob 55 f55_G0:=by
  refine FnOk.of_text (C:=f55_C) tab_ok.ok (Known.add f86_G_ok (Known.add f32_G_ok (Known.add f31_G_ok (Known.none)))) follows_ok (fn:=Tryz.f55) (by kernel_rfl) (by kernel_rfl) (by kernel_rfl) (fun c hc=>?_) fun tm hp K h=>?_
  · have e : c = bodyOf Tryz.f55:=Option.some.inj (hc.symm.trans (by kernel_rfl))
    subst e
    exact ⟨LoopsOk.of [bd Tryz.f55 0,bd Tryz.f55 1,bd Tryz.f55 2,bd Tryz.f55 3,bd Tryz.f55 4,bd Tryz.f55 5] (by kernel_rfl) ⟨f55_p4_ok,f55_p14_ok,f55_p20_ok,f55_p30_ok,f55_p40_ok,f55_p52_ok,trivial⟩,TailsOk.of (tab:=f55_tab) rfl [] (by kernel_rfl) trivial⟩
  · unfold f55_G0 at h
    obtain ⟨xx,yy,rfl,rfl,h⟩:=getS_elim h
    have e:=(f55_eq xx.1.1 xx.1.2 xx.2.1.1 xx.2.1.2 K).trans (show _ = funcT f55_C Tryz.f55 (mkR _ xx) (mkE _ yy) K by kernel_rfl)
    rw [← e]
    exact h.run
abbrev f55_G:=f55_G0
theorem f55_G_ok : FnOk Tryz.prog glob 55 f55_G:=f55_ok0
def f87_p8b0 (n33 : Int) (s34 : ByteArray) (n35 n36 : Int) (n37 n38 : Int) (n39 n40 : Int) (n41 n42 : Int) (n43 n44 n45 : Int) (s46 : ByteArray) (n47 : Int) (es48 : LL) (full49 : Bool) (N0 : Int→Prop) (k0 : Bool→Prop) (k1 : Unit→Prop) : Prop:=bB (decide (n33 < (es48.length : Int))) ((0≤n33∧n33 < (es48.length : Int))∧oI .i64 (ext (List.getD es48 (Int.toNat n33) []) 0 1) fun n50=>bB (decide (n50 < 0)) (k0 false) ((0≤n33∧n33 < (es48.length : Int))∧oI .i64 (ext (List.getD es48 (Int.toNat n33) []) 0 1) fun n51=>bB (decide (n51≥1440)) (k0 false) (N0 (w64 (n33 + 1))))) (k1 ())
def f87_p8 (s34 : ByteArray) (n35 n36 : Int) (n37 n38 : Int) (n39 n40 : Int) (n41 n42 : Int) (n43 n44 n45 : Int) (s46 : ByteArray) (n47 : Int) (es48 : LL) (full49 : Bool) (k0 : Bool→Prop) (k1 : Unit→Prop) : Int→Prop:=LoopP fun x N=>f87_p8b0 x s34 n35 n36 n37 n38 n39 n40 n41 n42 n43 n44 n45 s46 n47 es48 full49 (fun n33=>N n33) k0 k1
def f87_p7 (s17 : ByteArray) (n18 n19 : Int) (n20 n21 : Int) (n22 n23 : Int) (n24 n25 : Int) (n26 n27 n28 : Int) (s29 : ByteArray) (n30 : Int) (es31 : LL) (full32 : Bool) (k0 : Bool→Prop) : Prop:=f87_p8 s17 n18 n19 n20 n21 n22 n23 n24 n25 n26 n27 n28 s29 n30 es31 full32 k0 (fun (_ : Unit)=>k0 true) 0
def f87_d (s1 : ByteArray) (n2 n3 : Int) (n4 n5 : Int) (n6 n7 : Int) (n8 n9 : Int) (n10 n11 n12 : Int) (s13 : ByteArray) (n14 : Int) (es15 : LL) (full16 : Bool) (k0 : Bool→Prop) : Prop:=bB (decide (n14 < 1)) (k0 false) (bB (decide (n14 > 16)) (k0 false) (f87_p7 s1 n2 n3 n4 n5 n6 n7 n8 n9 n10 n11 n12 s13 n14 es15 full16 k0))
structure f87 (s1 : ByteArray) (n2 n3 : Int) (n4 n5 : Int) (n6 n7 : Int) (n8 n9 : Int) (n10 n11 n12 : Int) (s13 : ByteArray) (n14 : Int) (es15 : LL) (full16 : Bool) (k0 : Bool→Prop) : Prop where
  run : f87_d s1 n2 n3 n4 n5 n6 n7 n8 n9 n10 n11 n12 s13 n14 es15 full16 k0
def f87_p8L : Told:=fun s K=>match s with
  | ⟨tm,hp⟩=>getS [.skip 1,.v (.one (.ptr 0 0 0)),.skip 1,.v (.one (.int .i64)),.skip 31] [.box [.str,.int .i64,.int .i64,.int .i64,.int .i64,.int .i64,.int .i64,.int .i64,.int .i64,.int .i64,.int .i64,.int .i64,.str,.int .i64,.sl 3]] tm hp fun (xx : (Unit×(Unit×(Unit×(Int×(Unit×Unit)))))) (yy : ((ByteArray×(Int×(Int×(Int×(Int×(Int×(Int×(Int×(Int×(Int×(Int×(Int×(ByteArray×(Int×((LL×Bool)×Unit)))))))))))))))×Unit))=>f87_p8 yy.1.1 yy.1.2.1 yy.1.2.2.1 yy.1.2.2.2.1 yy.1.2.2.2.2.1 yy.1.2.2.2.2.2.1 yy.1.2.2.2.2.2.2.1 yy.1.2.2.2.2.2.2.2.1 yy.1.2.2.2.2.2.2.2.2.1 yy.1.2.2.2.2.2.2.2.2.2.1 yy.1.2.2.2.2.2.2.2.2.2.2.1 yy.1.2.2.2.2.2.2.2.2.2.2.2.1 yy.1.2.2.2.2.2.2.2.2.2.2.2.2.1 yy.1.2.2.2.2.2.2.2.2.2.2.2.2.2.1 yy.1.2.2.2.2.2.2.2.2.2.2.2.2.2.2.1.1 yy.1.2.2.2.2.2.2.2.2.2.2.2.2.2.2.1.2 (fun b0_0=>K .ret ⟨mkS 35 [(2,B b0_0)],[]⟩) (fun (_ : Unit)=>K (.exit 0) ⟨mkS 35 [],[]⟩) xx.2.2.2.1
def f87_p7L : Told:=fun s K=>match s with
  | ⟨tm,hp⟩=>getS [.skip 1,.v (.one (.ptr 0 0 0)),.skip 33] [.box [.str,.int .i64,.int .i64,.int .i64,.int .i64,.int .i64,.int .i64,.int .i64,.int .i64,.int .i64,.int .i64,.int .i64,.str,.int .i64,.sl 3]] tm hp fun (xx : (Unit×(Unit×(Unit×Unit)))) (yy : ((ByteArray×(Int×(Int×(Int×(Int×(Int×(Int×(Int×(Int×(Int×(Int×(Int×(ByteArray×(Int×((LL×Bool)×Unit)))))))))))))))×Unit))=>f87_p7 yy.1.1 yy.1.2.1 yy.1.2.2.1 yy.1.2.2.2.1 yy.1.2.2.2.2.1 yy.1.2.2.2.2.2.1 yy.1.2.2.2.2.2.2.1 yy.1.2.2.2.2.2.2.2.1 yy.1.2.2.2.2.2.2.2.2.1 yy.1.2.2.2.2.2.2.2.2.2.1 yy.1.2.2.2.2.2.2.2.2.2.2.1 yy.1.2.2.2.2.2.2.2.2.2.2.2.1 yy.1.2.2.2.2.2.2.2.2.2.2.2.2.1 yy.1.2.2.2.2.2.2.2.2.2.2.2.2.2.1 yy.1.2.2.2.2.2.2.2.2.2.2.2.2.2.2.1.1 yy.1.2.2.2.2.2.2.2.2.2.2.2.2.2.2.1.2 (fun b0_1=>K .ret ⟨mkS 35 [(2,B b0_1)],[]⟩)
def f87_tab : List (Nat×Told):=[(8,f87_p8L),(7,f87_p7L)]
def f87_call : FuncId→List TV→List Entry→(TV→List Entry→Prop)→Prop:=noCalls
def f87_C : Ctx:=mkC [(8,[(0,[1,3]),(2,[2]),(3,[])]),(7,[(0,[1]),(1,[2]),(2,[2])])] [] [] [] [] false 0 true (lookL f87_tab) f87_call
def f87_p8_mk (s34 : ByteArray) (n35 n36 : Int) (n37 n38 : Int) (n39 n40 : Int) (n41 n42 : Int) (n43 n44 n45 : Int) (s46 : ByteArray) (n47 : Int) (es48 : LL) (full49 : Bool) (x : Int) : St:=⟨mkS 35 [(1,.w (.one (.ptr 0 0 0))),(3,I x)],[.box [.p (pS s34),.p (pI n35),.p (pI n36),.p (pI n37),.p (pI n38),.p (pI n39),.p (pI n40),.p (pI n41),.p (pI n42),.p (pI n43),.p (pI n44),.p (pI n45),.p (pS s46),.p (pI n47),.p (.sl 3 es48 full49)]]⟩
theorem f87_p8e0 (n_20 : Int) (s_21 : ByteArray) (n_22 n_23 : Int) (n_24 n_25 : Int) (n_26 n_27 : Int) (n_28 n_29 : Int) (n_30 n_31 n_32 : Int) (s_33 : ByteArray) (n_34 : Int) (es_35 : LL) (full_36 : Bool) (N : St→Prop) (K : TExit→St→Prop) : (f87_p8b0 n_20 s_21 n_22 n_23 n_24 n_25 n_26 n_27 n_28 n_29 n_30 n_31 n_32 s_33 n_34 es_35 full_36 (fun z0=>N (f87_p8_mk s_21 n_22 n_23 n_24 n_25 n_26 n_27 n_28 n_29 n_30 n_31 n_32 s_33 n_34 es_35 full_36 z0)) (fun b0_37=>K .ret ⟨mkS 35 [(2,B b0_37)],[]⟩) (fun (_ : Unit)=>K (.exit 0) ⟨mkS 35 [],[]⟩)) = execT f87_C (bd Tryz.f87 0) (f87_p8_mk s_21 n_22 n_23 n_24 n_25 n_26 n_27 n_28 n_29 n_30 n_31 n_32 s_33 n_34 es_35 full_36 n_20) (loopK N (normK f87_C 8) fun e s=>K e (normOut f87_C 8 e s)):=by kernel_rfl
theorem f87_p7e0 (s_38 : ByteArray) (n_39 n_40 : Int) (n_41 n_42 : Int) (n_43 n_44 : Int) (n_45 n_46 : Int) (n_47 n_48 n_49 : Int) (s_50 : ByteArray) (n_51 : Int) (es_52 : LL) (full_53 : Bool) (K : TExit→St→Prop) : (f87_p7 s_38 n_39 n_40 n_41 n_42 n_43 n_44 n_45 n_46 n_47 n_48 n_49 s_50 n_51 es_52 full_53 (fun b0_54=>K .ret ⟨mkS 35 [(2,B b0_54)],[]⟩)) = execT f87_C (nthC (tails (bodyOf Tryz.f87)) 1) ⟨mkS 35 [(1,.w (.one (.ptr 0 0 0)))],[.box [.p (pS s_38),.p (pI n_39),.p (pI n_40),.p (pI n_41),.p (pI n_42),.p (pI n_43),.p (pI n_44),.p (pI n_45),.p (pI n_46),.p (pI n_47),.p (pI n_48),.p (pI n_49),.p (pS s_50),.p (pI n_51),.p (.sl 3 es_52 full_53)]]⟩ (fun e s=>K e (normOut f87_C 7 e s)):=by kernel_rfl
set_option maxHeartbeats 4000000 in
theorem f87_p8_ok : LoopOk f87_C (bd Tryz.f87 0):=by
  refine LoopOk.of f87_p8L (by kernel_rfl) fun σ K h=>?_
  have hk : loopKey (bd Tryz.f87 0) = 8:=by kernel_rfl
  rw [hk] at h ⊢
  generalize hs : normK f87_C 8 σ = s at h
  obtain ⟨tm,hp⟩:=s
  unfold f87_p8L at h
  dsimp only at h
  obtain ⟨xx,yy,rfl,rfl,h⟩:=getS_elim h
  refine iter_of (f87_p8_mk yy.1.1 yy.1.2.1 yy.1.2.2.1 yy.1.2.2.2.1 yy.1.2.2.2.2.1 yy.1.2.2.2.2.2.1 yy.1.2.2.2.2.2.2.1 yy.1.2.2.2.2.2.2.2.1 yy.1.2.2.2.2.2.2.2.2.1 yy.1.2.2.2.2.2.2.2.2.2.1 yy.1.2.2.2.2.2.2.2.2.2.2.1 yy.1.2.2.2.2.2.2.2.2.2.2.2.1 yy.1.2.2.2.2.2.2.2.2.2.2.2.2.1 yy.1.2.2.2.2.2.2.2.2.2.2.2.2.2.1 yy.1.2.2.2.2.2.2.2.2.2.2.2.2.2.2.1.1 yy.1.2.2.2.2.2.2.2.2.2.2.2.2.2.2.1.2) (fun x N h=>?_) rounds _ σ (hs.trans (by kernel_rfl)) (LoopP.run h)
  rw [← f87_p8e0 x yy.1.1 yy.1.2.1 yy.1.2.2.1 yy.1.2.2.2.1 yy.1.2.2.2.2.1 yy.1.2.2.2.2.2.1 yy.1.2.2.2.2.2.2.1 yy.1.2.2.2.2.2.2.2.1 yy.1.2.2.2.2.2.2.2.2.1 yy.1.2.2.2.2.2.2.2.2.2.1 yy.1.2.2.2.2.2.2.2.2.2.2.1 yy.1.2.2.2.2.2.2.2.2.2.2.2.1 yy.1.2.2.2.2.2.2.2.2.2.2.2.2.1 yy.1.2.2.2.2.2.2.2.2.2.2.2.2.2.1 yy.1.2.2.2.2.2.2.2.2.2.2.2.2.2.2.1.1 yy.1.2.2.2.2.2.2.2.2.2.2.2.2.2.2.1.2 N K]
  exact h
set_option maxHeartbeats 4000000 in
theorem f87_p7_ok : TailOk f87_C (nthC (tails (bodyOf Tryz.f87)) 1):=by
  refine TailOk.of f87_p7L (by kernel_rfl) fun σ K h=>?_
  have hk : joinKey (nthC (tails (bodyOf Tryz.f87)) 1) = 7:=by kernel_rfl
  rw [hk] at h ⊢
  generalize hs : normK f87_C 7 σ = s at h
  obtain ⟨tm,hp⟩:=s
  unfold f87_p7L at h
  dsimp only at h
  obtain ⟨xx,yy,rfl,rfl,h⟩:=getS_elim h
  have q : normK f87_C 7 σ = (⟨mkS 35 [(1,.w (.one (.ptr 0 0 0)))],[.box [.p (pS yy.1.1),.p (pI yy.1.2.1),.p (pI yy.1.2.2.1),.p (pI yy.1.2.2.2.1),.p (pI yy.1.2.2.2.2.1),.p (pI yy.1.2.2.2.2.2.1),.p (pI yy.1.2.2.2.2.2.2.1),.p (pI yy.1.2.2.2.2.2.2.2.1),.p (pI yy.1.2.2.2.2.2.2.2.2.1),.p (pI yy.1.2.2.2.2.2.2.2.2.2.1),.p (pI yy.1.2.2.2.2.2.2.2.2.2.2.1),.p (pI yy.1.2.2.2.2.2.2.2.2.2.2.2.1),.p (pS yy.1.2.2.2.2.2.2.2.2.2.2.2.2.1),.p (pI yy.1.2.2.2.2.2.2.2.2.2.2.2.2.2.1),.p (.sl 3 yy.1.2.2.2.2.2.2.2.2.2.2.2.2.2.2.1.1 yy.1.2.2.2.2.2.2.2.2.2.2.2.2.2.2.1.2)]]⟩ : St):=hs.trans (by kernel_rfl)
  rw [← hs,q,← f87_p7e0 yy.1.1 yy.1.2.1 yy.1.2.2.1 yy.1.2.2.2.1 yy.1.2.2.2.2.1 yy.1.2.2.2.2.2.1 yy.1.2.2.2.2.2.2.1 yy.1.2.2.2.2.2.2.2.1 yy.1.2.2.2.2.2.2.2.2.1 yy.1.2.2.2.2.2.2.2.2.2.1 yy.1.2.2.2.2.2.2.2.2.2.2.1 yy.1.2.2.2.2.2.2.2.2.2.2.2.1 yy.1.2.2.2.2.2.2.2.2.2.2.2.2.1 yy.1.2.2.2.2.2.2.2.2.2.2.2.2.2.1 yy.1.2.2.2.2.2.2.2.2.2.2.2.2.2.2.1.1 yy.1.2.2.2.2.2.2.2.2.2.2.2.2.2.2.1.2 K]
  exact h
def f87_G0 : List TV→List Entry→(TV→List Entry→Prop)→Prop:=fun tm hp K=>getS [.v (.pagg [.str,.int .i64,.int .i64,.int .i64,.int .i64,.int .i64,.int .i64,.int .i64,.int .i64,.int .i64,.int .i64,.int .i64,.str,.int .i64,.sl 3])] [] tm hp fun (xx : ((ByteArray×(Int×(Int×(Int×(Int×(Int×(Int×(Int×(Int×(Int×(Int×(Int×(ByteArray×(Int×((LL×Bool)×Unit)))))))))))))))×Unit)) (yy : Unit)=>f87 xx.1.1 xx.1.2.1 xx.1.2.2.1 xx.1.2.2.2.1 xx.1.2.2.2.2.1 xx.1.2.2.2.2.2.1 xx.1.2.2.2.2.2.2.1 xx.1.2.2.2.2.2.2.2.1 xx.1.2.2.2.2.2.2.2.2.1 xx.1.2.2.2.2.2.2.2.2.2.1 xx.1.2.2.2.2.2.2.2.2.2.2.1 xx.1.2.2.2.2.2.2.2.2.2.2.2.1 xx.1.2.2.2.2.2.2.2.2.2.2.2.2.1 xx.1.2.2.2.2.2.2.2.2.2.2.2.2.2.1 xx.1.2.2.2.2.2.2.2.2.2.2.2.2.2.2.1.1 xx.1.2.2.2.2.2.2.2.2.2.2.2.2.2.2.1.2 (fun b0_2=>K (B b0_2) [])
theorem f87_eq (s_55 : ByteArray) (n_56 n_57 : Int) (n_58 n_59 : Int) (n_60 n_61 : Int) (n_62 n_63 : Int) (n_64 n_65 n_66 : Int) (s_67 : ByteArray) (n_68 : Int) (es_69 : LL) (full_70 : Bool) (K : TV→List Entry→Prop) : (f87_d s_55 n_56 n_57 n_58 n_59 n_60 n_61 n_62 n_63 n_64 n_65 n_66 s_67 n_68 es_69 full_70 (fun b0_2=>K (B b0_2) [])) = funcT f87_C Tryz.f87 [.w (.pagg [pS s_55,pI n_56,pI n_57,pI n_58,pI n_59,pI n_60,pI n_61,pI n_62,pI n_63,pI n_64,pI n_65,pI n_66,pS s_67,pI n_68,.sl 3 es_69 full_70])] [] K:=by kernel_rfl
set_option maxHeartbeats 4000000 in
theorem f87_ok0 : FnOk Tryz.prog glob 87 f87_G0:=by
  refine FnOk.of_text (C:=f87_C) tab_ok.ok (Known.none) follows_ok (fn:=Tryz.f87) (by kernel_rfl) (by kernel_rfl) (by kernel_rfl) (fun c hc=>?_) fun tm hp K h=>?_
  · have e : c = bodyOf Tryz.f87:=Option.some.inj (hc.symm.trans (by kernel_rfl))
    subst e
    exact ⟨LoopsOk.of [bd Tryz.f87 0] (by kernel_rfl) ⟨f87_p8_ok,trivial⟩,TailsOk.of (tab:=f87_tab) rfl [nthC (tails (bodyOf Tryz.f87)) 1] (by kernel_rfl) ⟨f87_p7_ok,trivial⟩⟩
  · unfold f87_G0 at h
    obtain ⟨xx,yy,rfl,rfl,h⟩:=getS_elim h
    have e:=(f87_eq xx.1.1 xx.1.2.1 xx.1.2.2.1 xx.1.2.2.2.1 xx.1.2.2.2.2.1 xx.1.2.2.2.2.2.1 xx.1.2.2.2.2.2.2.1 xx.1.2.2.2.2.2.2.2.1 xx.1.2.2.2.2.2.2.2.2.1 xx.1.2.2.2.2.2.2.2.2.2.1 xx.1.2.2.2.2.2.2.2.2.2.2.1 xx.1.2.2.2.2.2.2.2.2.2.2.2.1 xx.1.2.2.2.2.2.2.2.2.2.2.2.2.1 xx.1.2.2.2.2.2.2.2.2.2.2.2.2.2.1 xx.1.2.2.2.2.2.2.2.2.2.2.2.2.2.2.1.1 xx.1.2.2.2.2.2.2.2.2.2.2.2.2.2.2.1.2 K).trans (show _ = funcT f87_C Tryz.f87 (mkR _ xx) (mkE _ yy) K by kernel_rfl)
    rw [← e]
    exact h.run
abbrev f87_G:=f87_G0
theorem f87_G_ok : FnOk Tryz.prog glob 87 f87_G:=f87_ok0
def f88_d (n1 n2 : Int) (k0 : Bool→Prop) : Prop:=bB (n1 == 0) (k0 (n2 == 0)) (bB (n1 == 1) (bB (decide (n2≥(-1000000000000))) (k0 (decide (n2≤1000000000000))) (k0 false)) (bB (n1 == 2) (bB (n2 == 0) (k0 true) (k0 (n2 == 1))) (bB (n1 == 3) (bB (decide (n2≥1)) (k0 (decide (n2≤16))) (k0 false)) (k0 false))))
structure f88 (n1 n2 : Int) (k0 : Bool→Prop) : Prop where
  run : f88_d n1 n2 k0
def f88_tab : List (Nat×Told):=[]
def f88_call : FuncId→List TV→List Entry→(TV→List Entry→Prop)→Prop:=noCalls
def f88_C : Ctx:=mkC [] [] [] [] [] false 0 true (lookL f88_tab) f88_call
def f88_G0 : List TV→List Entry→(TV→List Entry→Prop)→Prop:=fun tm hp K=>getS [.v (.pagg [.int .i64,.int .i64])] [] tm hp fun (xx : ((Int×(Int×Unit))×Unit)) (yy : Unit)=>f88 xx.1.1 xx.1.2.1 (fun b0_0=>K (B b0_0) [])
theorem f88_eq (n_1 n_2 : Int) (K : TV→List Entry→Prop) : (f88_d n_1 n_2 (fun b0_0=>K (B b0_0) [])) = funcT f88_C Tryz.f88 [.w (.pagg [pI n_1,pI n_2])] [] K:=by kernel_rfl
set_option maxHeartbeats 4000000 in
theorem f88_ok0 : FnOk Tryz.prog glob 88 f88_G0:=by
  refine FnOk.of_text (C:=f88_C) tab_ok.ok (Known.none) follows_ok (fn:=Tryz.f88) (by kernel_rfl) (by kernel_rfl) (by kernel_rfl) (fun c hc=>?_) fun tm hp K h=>?_
  · have e : c = bodyOf Tryz.f88:=Option.some.inj (hc.symm.trans (by kernel_rfl))
    subst e
    exact ⟨LoopsOk.of [] (by kernel_rfl) trivial,TailsOk.of (tab:=f88_tab) rfl [] (by kernel_rfl) trivial⟩
  · unfold f88_G0 at h
    obtain ⟨xx,yy,rfl,rfl,h⟩:=getS_elim h
    have e:=(f88_eq xx.1.1 xx.1.2.1 K).trans (show _ = funcT f88_C Tryz.f88 (mkR _ xx) (mkE _ yy) K by kernel_rfl)
    rw [← e]
    exact h.run
abbrev f88_G:=f88_G0
theorem f88_G_ok : FnOk Tryz.prog glob 88 f88_G:=f88_ok0
def f56_p4b0 (es3 : LL) (full4 : Bool) (n5 : Int) (N0 : Int→Prop) (k0 : Int→Prop) (k1 : Unit→Prop) : Prop:=bB (decide (n5 < (es3.length : Int))) ((0≤n5∧n5 < (es3.length : Int))∧cS (ext (List.getD es3 (Int.toNat n5) []) 0 15) fun s7 r6=>cI .i64 r6 fun n9 r8=>cI .i64 r8 fun n11 r10=>cI .i64 r10 fun n13 r12=>cI .i64 r12 fun n15 r14=>cI .i64 r14 fun n17 r16=>cI .i64 r16 fun n19 r18=>cI .i64 r18 fun n21 r20=>cI .i64 r20 fun n23 r22=>cI .i64 r22 fun n25 r24=>cI .i64 r24 fun n27 r26=>cI .i64 r26 fun n29 r28=>cS r28 fun s31 r30=>cI .i64 r30 fun n33 r32=>cL 3 r32 fun es35 full36 r34=>nilC r34 <| f87 s7 n9 n11 n13 n15 n17 n19 n21 n23 n25 n27 n29 s31 n33 es35 full36 (fun b37=>bB (!b37) (k0 6) (N0 (w64 (n5 + 1))))) (k1 ())
def f56_p4 (es3 : LL) (full4 : Bool) (k0 : Int→Prop) (k1 : Unit→Prop) : Int→Prop:=LoopP fun x N=>f56_p4b0 es3 full4 x (fun n5=>N n5) k0 k1
def f56_p20b0 (es42 : LL) (full43 : Bool) (n44 n45 : Int) (N0 : Int→Prop) (k0 : Int→Prop) (k1 : Unit→Prop) : Prop:=(0≤n44∧n44 < (es42.length : Int))∧oL 3 (ext (List.getD es42 (Int.toNat n44) []) 14 1) fun es46 full47=>bB (decide (n45 < (es46.length : Int))) ((0≤n44∧n44 < (es42.length : Int))∧oL 3 (ext (List.getD es42 (Int.toNat n44) []) 14 1) fun es48 full49=>(0≤(w64 (n45 - 1))∧(w64 (n45 - 1)) < (es48.length : Int))∧oI .i64 (ext (List.getD es48 (Int.toNat (w64 (n45 - 1))) []) 0 1) fun n50=>(0≤n44∧n44 < (es42.length : Int))∧oL 3 (ext (List.getD es42 (Int.toNat n44) []) 14 1) fun es51 full52=>(0≤n45∧n45 < (es51.length : Int))∧oI .i64 (ext (List.getD es51 (Int.toNat n45) []) 0 1) fun n53=>bB (decide (n50≥n53)) (k0 5) (N0 (w64 (n45 + 1)))) (k1 ())
def f56_p20 (es42 : LL) (full43 : Bool) (n44 : Int) (k0 : Int→Prop) (k1 : Unit→Prop) : Int→Prop:=LoopP fun x N=>f56_p20b0 es42 full43 n44 x (fun n45=>N n45) k0 k1
def f56_p14b0 (es39 : LL) (full40 : Bool) (n41 : Int) (N0 : Int→Prop) (k0 : Int→Prop) (k1 : Unit→Prop) : Prop:=bB (decide (n41 < (es39.length : Int))) (f56_p20 es39 full40 n41 k0 (fun (_ : Unit)=>N0 (w64 (n41 + 1))) 1) (k1 ())
def f56_p14 (es39 : LL) (full40 : Bool) (k0 : Int→Prop) (k1 : Unit→Prop) : Int→Prop:=LoopP fun x N=>f56_p14b0 es39 full40 x (fun n41=>N n41) k0 k1
def f56_p36b0 (es59 : LL) (full60 : Bool) (n61 n62 : Int) (N0 : Int→Prop) (k0 : Int→Prop) (k1 : Unit→Prop) : Prop:=(0≤n61∧n61 < (es59.length : Int))∧oL 3 (ext (List.getD es59 (Int.toNat n61) []) 14 1) fun es63 full64=>bB (decide (n62 < (es63.length : Int))) ((0≤n61∧n61 < (es59.length : Int))∧oL 3 (ext (List.getD es59 (Int.toNat n61) []) 14 1) fun es65 full66=>(0≤n62∧n62 < (es65.length : Int))∧cI .i64 (ext (List.getD es65 (Int.toNat n62) []) 1 2) fun n68 r67=>cI .i64 r67 fun n70 r69=>nilC r69 <| f88 n68 n70 (fun b71=>bB (!b71) (k0 11) (N0 (w64 (n62 + 1))))) (k1 ())
def f56_p36 (es59 : LL) (full60 : Bool) (n61 : Int) (k0 : Int→Prop) (k1 : Unit→Prop) : Int→Prop:=LoopP fun x N=>f56_p36b0 es59 full60 n61 x (fun n62=>N n62) k0 k1
def f56_p30b0 (es56 : LL) (full57 : Bool) (n58 : Int) (N0 : Int→Prop) (k0 : Int→Prop) (k1 : Unit→Prop) : Prop:=bB (decide (n58 < (es56.length : Int))) (f56_p36 es56 full57 n58 k0 (fun (_ : Unit)=>N0 (w64 (n58 + 1))) 0) (k1 ())
def f56_p30 (es56 : LL) (full57 : Bool) (k0 : Int→Prop) (k1 : Unit→Prop) : Int→Prop:=LoopP fun x N=>f56_p30b0 es56 full57 x (fun n58=>N n58) k0 k1
def f56_d (es1 : LL) (full2 : Bool) (k0 : Int→Prop) : Prop:=f56_p4 es1 full2 k0 (fun (_ : Unit)=>f56_p14 es1 full2 k0 (fun (_ : Unit)=>f56_p30 es1 full2 k0 (fun (_ : Unit)=>k0 0) 0) 0) 0
structure f56 (es1 : LL) (full2 : Bool) (k0 : Int→Prop) : Prop where
  run : f56_d es1 full2 k0
def f56_p4L : Told:=fun s K=>match s with
  | ⟨tm,hp⟩=>getS [.v (.one (.sl 15)),.skip 2,.v (.one (.int .i64)),.skip 79] [] tm hp fun (xx : ((LL×Bool)×(Unit×(Int×(Unit×Unit))))) (yy : Unit)=>f56_p4 xx.1.1 xx.1.2 (fun n0_0=>K .ret ⟨mkS 83 [(2,I n0_0)],[]⟩) (fun (_ : Unit)=>K (.exit 0) ⟨mkS 83 [(0,.w (.one (.p (.sl 15 xx.1.1 xx.1.2))))],[]⟩) xx.2.2.1
def f56_p20L : Told:=fun s K=>match s with
  | ⟨tm,hp⟩=>getS [.v (.one (.sl 15)),.skip 3,.v (.one (.int .i64)),.v (.one (.int .i64)),.skip 77] [] tm hp fun (xx : ((LL×Bool)×(Unit×(Int×(Int×(Unit×Unit)))))) (yy : Unit)=>f56_p20 xx.1.1 xx.1.2 xx.2.2.1 (fun n0_1=>K .ret ⟨mkS 83 [(2,I n0_1)],[]⟩) (fun (_ : Unit)=>K (.exit 4) ⟨mkS 83 [(0,.w (.one (.p (.sl 15 xx.1.1 xx.1.2)))),(4,I xx.2.2.1)],[]⟩) xx.2.2.2.1
def f56_p14L : Told:=fun s K=>match s with
  | ⟨tm,hp⟩=>getS [.v (.one (.sl 15)),.skip 3,.v (.one (.int .i64)),.skip 78] [] tm hp fun (xx : ((LL×Bool)×(Unit×(Int×(Unit×Unit))))) (yy : Unit)=>f56_p14 xx.1.1 xx.1.2 (fun n0_2=>K .ret ⟨mkS 83 [(2,I n0_2)],[]⟩) (fun (_ : Unit)=>K (.exit 2) ⟨mkS 83 [(0,.w (.one (.p (.sl 15 xx.1.1 xx.1.2))))],[]⟩) xx.2.2.1
def f56_p36L : Told:=fun s K=>match s with
  | ⟨tm,hp⟩=>getS [.v (.one (.sl 15)),.skip 5,.v (.one (.int .i64)),.v (.one (.int .i64)),.skip 75] [] tm hp fun (xx : ((LL×Bool)×(Unit×(Int×(Int×(Unit×Unit)))))) (yy : Unit)=>f56_p36 xx.1.1 xx.1.2 xx.2.2.1 (fun n0_3=>K .ret ⟨mkS 83 [(2,I n0_3)],[]⟩) (fun (_ : Unit)=>K (.exit 8) ⟨mkS 83 [(0,.w (.one (.p (.sl 15 xx.1.1 xx.1.2)))),(6,I xx.2.2.1)],[]⟩) xx.2.2.2.1
def f56_p30L : Told:=fun s K=>match s with
  | ⟨tm,hp⟩=>getS [.v (.one (.sl 15)),.skip 5,.v (.one (.int .i64)),.skip 76] [] tm hp fun (xx : ((LL×Bool)×(Unit×(Int×(Unit×Unit))))) (yy : Unit)=>f56_p30 xx.1.1 xx.1.2 (fun n0_4=>K .ret ⟨mkS 83 [(2,I n0_4)],[]⟩) (fun (_ : Unit)=>K (.exit 6) ⟨mkS 83 [],[]⟩) xx.2.2.1
def f56_tab : List (Nat×Told):=[(4,f56_p4L),(20,f56_p20L),(14,f56_p14L),(36,f56_p36L),(30,f56_p30L)]
def f56_call : FuncId→List TV→List Entry→(TV→List Entry→Prop)→Prop:=addCall 88 f88_G (addCall 87 f87_G (noCalls))
def f56_C : Ctx:=mkC [(4,[(0,[0,3]),(2,[2]),(3,[0])]),(20,[(0,[0,4,5]),(2,[2]),(5,[0]),(6,[0,4]),(7,[0,4])]),(14,[(0,[0,4]),(2,[2]),(5,[0])]),(36,[(0,[0,6,7]),(2,[2]),(9,[]),(10,[0,6]),(11,[0,6])]),(30,[(0,[0,6]),(2,[2]),(9,[])])] [] [] [] [] false 0 true (lookL f56_tab) f56_call
def f56_p4_mk (es3 : LL) (full4 : Bool) (x : Int) : St:=⟨mkS 83 [(0,.w (.one (.p (.sl 15 es3 full4)))),(3,I x)],[]⟩
theorem f56_p4e0 (es_9 : LL) (full_10 : Bool) (n_11 : Int) (N : St→Prop) (K : TExit→St→Prop) : (f56_p4b0 es_9 full_10 n_11 (fun z2=>N (f56_p4_mk es_9 full_10 z2)) (fun n0_12=>K .ret ⟨mkS 83 [(2,I n0_12)],[]⟩) (fun (_ : Unit)=>K (.exit 0) ⟨mkS 83 [(0,.w (.one (.p (.sl 15 es_9 full_10))))],[]⟩)) = execT f56_C (bd Tryz.f56 0) (f56_p4_mk es_9 full_10 n_11) (loopK N (normK f56_C 4) fun e s=>K e (normOut f56_C 4 e s)):=by kernel_rfl
def f56_p20_mk (es42 : LL) (full43 : Bool) (n44 x : Int) : St:=⟨mkS 83 [(0,.w (.one (.p (.sl 15 es42 full43)))),(4,I n44),(5,I x)],[]⟩
theorem f56_p20e0 (es_17 : LL) (full_18 : Bool) (n_19 n_20 : Int) (N : St→Prop) (K : TExit→St→Prop) : (f56_p20b0 es_17 full_18 n_19 n_20 (fun z3=>N (f56_p20_mk es_17 full_18 n_19 z3)) (fun n0_21=>K .ret ⟨mkS 83 [(2,I n0_21)],[]⟩) (fun (_ : Unit)=>K (.exit 4) ⟨mkS 83 [(0,.w (.one (.p (.sl 15 es_17 full_18)))),(4,I n_19)],[]⟩)) = execT f56_C (bd Tryz.f56 2) (f56_p20_mk es_17 full_18 n_19 n_20) (loopK N (normK f56_C 20) fun e s=>K e (normOut f56_C 20 e s)):=by kernel_rfl
def f56_p14_mk (es39 : LL) (full40 : Bool) (x : Int) : St:=⟨mkS 83 [(0,.w (.one (.p (.sl 15 es39 full40)))),(4,I x)],[]⟩
theorem f56_p14e0 (es_25 : LL) (full_26 : Bool) (n_27 : Int) (N : St→Prop) (K : TExit→St→Prop) : (f56_p14b0 es_25 full_26 n_27 (fun z2=>N (f56_p14_mk es_25 full_26 z2)) (fun n0_28=>K .ret ⟨mkS 83 [(2,I n0_28)],[]⟩) (fun (_ : Unit)=>K (.exit 2) ⟨mkS 83 [(0,.w (.one (.p (.sl 15 es_25 full_26))))],[]⟩)) = execT f56_C (bd Tryz.f56 1) (f56_p14_mk es_25 full_26 n_27) (loopK N (normK f56_C 14) fun e s=>K e (normOut f56_C 14 e s)):=by kernel_rfl
def f56_p36_mk (es59 : LL) (full60 : Bool) (n61 x : Int) : St:=⟨mkS 83 [(0,.w (.one (.p (.sl 15 es59 full60)))),(6,I n61),(7,I x)],[]⟩
theorem f56_p36e0 (es_33 : LL) (full_34 : Bool) (n_35 n_36 : Int) (N : St→Prop) (K : TExit→St→Prop) : (f56_p36b0 es_33 full_34 n_35 n_36 (fun z3=>N (f56_p36_mk es_33 full_34 n_35 z3)) (fun n0_37=>K .ret ⟨mkS 83 [(2,I n0_37)],[]⟩) (fun (_ : Unit)=>K (.exit 8) ⟨mkS 83 [(0,.w (.one (.p (.sl 15 es_33 full_34)))),(6,I n_35)],[]⟩)) = execT f56_C (bd Tryz.f56 4) (f56_p36_mk es_33 full_34 n_35 n_36) (loopK N (normK f56_C 36) fun e s=>K e (normOut f56_C 36 e s)):=by kernel_rfl
def f56_p30_mk (es56 : LL) (full57 : Bool) (x : Int) : St:=⟨mkS 83 [(0,.w (.one (.p (.sl 15 es56 full57)))),(6,I x)],[]⟩
theorem f56_p30e0 (es_41 : LL) (full_42 : Bool) (n_43 : Int) (N : St→Prop) (K : TExit→St→Prop) : (f56_p30b0 es_41 full_42 n_43 (fun z2=>N (f56_p30_mk es_41 full_42 z2)) (fun n0_44=>K .ret ⟨mkS 83 [(2,I n0_44)],[]⟩) (fun (_ : Unit)=>K (.exit 6) ⟨mkS 83 [],[]⟩)) = execT f56_C (bd Tryz.f56 3) (f56_p30_mk es_41 full_42 n_43) (loopK N (normK f56_C 30) fun e s=>K e (normOut f56_C 30 e s)):=by kernel_rfl
set_option maxHeartbeats 4000000 in
theorem f56_p4_ok : LoopOk f56_C (bd Tryz.f56 0):=by
  refine LoopOk.of f56_p4L (by kernel_rfl) fun σ K h=>?_
  have hk : loopKey (bd Tryz.f56 0) = 4:=by kernel_rfl
  rw [hk] at h ⊢
  generalize hs : normK f56_C 4 σ = s at h
  obtain ⟨tm,hp⟩:=s
  unfold f56_p4L at h
  dsimp only at h
  obtain ⟨xx,yy,rfl,rfl,h⟩:=getS_elim h
  refine iter_of (f56_p4_mk xx.1.1 xx.1.2) (fun x N h=>?_) rounds _ σ (hs.trans (by kernel_rfl)) (LoopP.run h)
  rw [← f56_p4e0 xx.1.1 xx.1.2 x N K]
  exact h
set_option maxHeartbeats 4000000 in
theorem f56_p20_ok : LoopOk f56_C (bd Tryz.f56 2):=by
  refine LoopOk.of f56_p20L (by kernel_rfl) fun σ K h=>?_
  have hk : loopKey (bd Tryz.f56 2) = 20:=by kernel_rfl
  rw [hk] at h ⊢
  generalize hs : normK f56_C 20 σ = s at h
  obtain ⟨tm,hp⟩:=s
  unfold f56_p20L at h
  dsimp only at h
  obtain ⟨xx,yy,rfl,rfl,h⟩:=getS_elim h
  refine iter_of (f56_p20_mk xx.1.1 xx.1.2 xx.2.2.1) (fun x N h=>?_) rounds _ σ (hs.trans (by kernel_rfl)) (LoopP.run h)
  rw [← f56_p20e0 xx.1.1 xx.1.2 xx.2.2.1 x N K]
  exact h
set_option maxHeartbeats 4000000 in
theorem f56_p14_ok : LoopOk f56_C (bd Tryz.f56 1):=by
  refine LoopOk.of f56_p14L (by kernel_rfl) fun σ K h=>?_
  have hk : loopKey (bd Tryz.f56 1) = 14:=by kernel_rfl
  rw [hk] at h ⊢
  generalize hs : normK f56_C 14 σ = s at h
  obtain ⟨tm,hp⟩:=s
  unfold f56_p14L at h
  dsimp only at h
  obtain ⟨xx,yy,rfl,rfl,h⟩:=getS_elim h
  refine iter_of (f56_p14_mk xx.1.1 xx.1.2) (fun x N h=>?_) rounds _ σ (hs.trans (by kernel_rfl)) (LoopP.run h)
  rw [← f56_p14e0 xx.1.1 xx.1.2 x N K]
  exact h
set_option maxHeartbeats 4000000 in
theorem f56_p36_ok : LoopOk f56_C (bd Tryz.f56 4):=by
  refine LoopOk.of f56_p36L (by kernel_rfl) fun σ K h=>?_
  have hk : loopKey (bd Tryz.f56 4) = 36:=by kernel_rfl
  rw [hk] at h ⊢
  generalize hs : normK f56_C 36 σ = s at h
  obtain ⟨tm,hp⟩:=s
  unfold f56_p36L at h
  dsimp only at h
  obtain ⟨xx,yy,rfl,rfl,h⟩:=getS_elim h
  refine iter_of (f56_p36_mk xx.1.1 xx.1.2 xx.2.2.1) (fun x N h=>?_) rounds _ σ (hs.trans (by kernel_rfl)) (LoopP.run h)
  rw [← f56_p36e0 xx.1.1 xx.1.2 xx.2.2.1 x N K]
  exact h
set_option maxHeartbeats 4000000 in
theorem f56_p30_ok : LoopOk f56_C (bd Tryz.f56 3):=by
  refine LoopOk.of f56_p30L (by kernel_rfl) fun σ K h=>?_
  have hk : loopKey (bd Tryz.f56 3) = 30:=by kernel_rfl
  rw [hk] at h ⊢
  generalize hs : normK f56_C 30 σ = s at h
  obtain ⟨tm,hp⟩:=s
  unfold f56_p30L at h
  dsimp only at h
  obtain ⟨xx,yy,rfl,rfl,h⟩:=getS_elim h
  refine iter_of (f56_p30_mk xx.1.1 xx.1.2) (fun x N h=>?_) rounds _ σ (hs.trans (by kernel_rfl)) (LoopP.run h)
  rw [← f56_p30e0 xx.1.1 xx.1.2 x N K]
  exact h
def f56_G0 : List TV→List Entry→(TV→List Entry→Prop)→Prop:=fun tm hp K=>getS [.v (.one (.sl 15))] [] tm hp fun (xx : ((LL×Bool)×Unit)) (yy : Unit)=>f56 xx.1.1 xx.1.2 (fun n0_5=>K (I n0_5) [])
theorem f56_eq (es_45 : LL) (full_46 : Bool) (K : TV→List Entry→Prop) : (f56_d es_45 full_46 (fun n0_5=>K (I n0_5) [])) = funcT f56_C Tryz.f56 [.w (.one (.p (.sl 15 es_45 full_46)))] [] K:=by kernel_rfl
set_option maxHeartbeats 4000000 in
theorem f56_ok0 : FnOk Tryz.prog glob 56 f56_G0:=by
  refine FnOk.of_text (C:=f56_C) tab_ok.ok (Known.add f88_G_ok (Known.add f87_G_ok (Known.none))) follows_ok (fn:=Tryz.f56) (by kernel_rfl) (by kernel_rfl) (by kernel_rfl) (fun c hc=>?_) fun tm hp K h=>?_
  · have e : c = bodyOf Tryz.f56:=Option.some.inj (hc.symm.trans (by kernel_rfl))
    subst e
    exact ⟨LoopsOk.of [bd Tryz.f56 0,bd Tryz.f56 1,bd Tryz.f56 2,bd Tryz.f56 3,bd Tryz.f56 4] (by kernel_rfl) ⟨f56_p4_ok,f56_p14_ok,f56_p20_ok,f56_p30_ok,f56_p36_ok,trivial⟩,TailsOk.of (tab:=f56_tab) rfl [] (by kernel_rfl) trivial⟩
  · unfold f56_G0 at h
    obtain ⟨xx,yy,rfl,rfl,h⟩:=getS_elim h
    have e:=(f56_eq xx.1.1 xx.1.2 K).trans (show _ = funcT f56_C Tryz.f56 (mkR _ xx) (mkE _ yy) K by kernel_rfl)
    rw [← e]
    exact h.run
abbrev f56_G:=f56_G0
theorem f56_G_ok : FnOk Tryz.prog glob 56 f56_G:=f56_ok0
def f19_p14b0 (es6 : LL) (full7 : Bool) (es8 : LL) (full9 : Bool) (n10 : Int) (N0 : Int→Prop) (k0 : Int→Prop) (k1 : Unit→Prop) : Prop:=bB (decide (n10 < (es6.length : Int))) ((0≤n10∧n10 < (es6.length : Int))∧oL 3 (ext (List.getD es6 (Int.toNat n10) []) 14 1) fun es11 full12=>bB (decide ((es11.length : Int) > 32)) (k0 7) (N0 (w64 (n10 + 1)))) (k1 ())
def f19_p14 (es6 : LL) (full7 : Bool) (es8 : LL) (full9 : Bool) (k0 : Int→Prop) (k1 : Unit→Prop) : Int→Prop:=LoopP fun x N=>f19_p14b0 es6 full7 es8 full9 x (fun n10=>N n10) k0 k1
def f19_d (es1 : LL) (full2 : Bool) (es3 : LL) (full4 : Bool) (k0 : Int→Prop) : Prop:=f54 es3 full4 (fun n5=>bB (n5 != 0) (k0 n5) (bB (decide ((es1.length : Int) > 64)) (k0 7) (f19_p14 es1 full2 es3 full4 k0 (fun (_ : Unit)=>f55 es1 full2 es3 full4 (fun n14=>bB (n14 != 0) (k0 n14) (f56 es1 full2 k0))) 0)))
structure f19 (es1 : LL) (full2 : Bool) (es3 : LL) (full4 : Bool) (k0 : Int→Prop) : Prop where
  run : f19_d es1 full2 es3 full4 k0
def f19_p14L : Told:=fun s K=>match s with
  | ⟨tm,hp⟩=>getS [.v (.one (.sl 15)),.v (.one (.sl 2)),.skip 4,.v (.one (.int .i64)),.skip 30] [] tm hp fun (xx : ((LL×Bool)×((LL×Bool)×(Unit×(Int×(Unit×Unit)))))) (yy : Unit)=>f19_p14 xx.1.1 xx.1.2 xx.2.1.1 xx.2.1.2 (fun n0_0=>K .ret ⟨mkS 37 [(4,I n0_0)],[]⟩) (fun (_ : Unit)=>K (.exit 0) ⟨mkS 37 [(0,.w (.one (.p (.sl 15 xx.1.1 xx.1.2)))),(1,.w (.one (.p (.sl 2 xx.2.1.1 xx.2.1.2))))],[]⟩) xx.2.2.2.1
def f19_tab : List (Nat×Told):=[(14,f19_p14L)]
def f19_call : FuncId→List TV→List Entry→(TV→List Entry→Prop)→Prop:=addCall 56 f56_G (addCall 55 f55_G (addCall 54 f54_G (noCalls)))
def f19_C : Ctx:=mkC [(14,[(0,[0,1,6]),(2,[4]),(3,[0,1])])] [] [] [] [] false 0 true (lookL f19_tab) f19_call
def f19_p14_mk (es6 : LL) (full7 : Bool) (es8 : LL) (full9 : Bool) (x : Int) : St:=⟨mkS 37 [(0,.w (.one (.p (.sl 15 es6 full7)))),(1,.w (.one (.p (.sl 2 es8 full9)))),(6,I x)],[]⟩
theorem f19_p14e0 (es_7 : LL) (full_8 : Bool) (es_9 : LL) (full_10 : Bool) (n_11 : Int) (N : St→Prop) (K : TExit→St→Prop) : (f19_p14b0 es_7 full_8 es_9 full_10 n_11 (fun z4=>N (f19_p14_mk es_7 full_8 es_9 full_10 z4)) (fun n0_12=>K .ret ⟨mkS 37 [(4,I n0_12)],[]⟩) (fun (_ : Unit)=>K (.exit 0) ⟨mkS 37 [(0,.w (.one (.p (.sl 15 es_7 full_8)))),(1,.w (.one (.p (.sl 2 es_9 full_10))))],[]⟩)) = execT f19_C (bd Tryz.f19 0) (f19_p14_mk es_7 full_8 es_9 full_10 n_11) (loopK N (normK f19_C 14) fun e s=>K e (normOut f19_C 14 e s)):=by kernel_rfl
set_option maxHeartbeats 4000000 in
theorem f19_p14_ok : LoopOk f19_C (bd Tryz.f19 0):=by
  refine LoopOk.of f19_p14L (by kernel_rfl) fun σ K h=>?_
  have hk : loopKey (bd Tryz.f19 0) = 14:=by kernel_rfl
  rw [hk] at h ⊢
  generalize hs : normK f19_C 14 σ = s at h
  obtain ⟨tm,hp⟩:=s
  unfold f19_p14L at h
  dsimp only at h
  obtain ⟨xx,yy,rfl,rfl,h⟩:=getS_elim h
  refine iter_of (f19_p14_mk xx.1.1 xx.1.2 xx.2.1.1 xx.2.1.2) (fun x N h=>?_) rounds _ σ (hs.trans (by kernel_rfl)) (LoopP.run h)
  rw [← f19_p14e0 xx.1.1 xx.1.2 xx.2.1.1 xx.2.1.2 x N K]
  exact h
def f19_G0 : List TV→List Entry→(TV→List Entry→Prop)→Prop:=fun tm hp K=>getS [.v (.one (.sl 15)),.v (.one (.sl 2))] [] tm hp fun (xx : ((LL×Bool)×((LL×Bool)×Unit))) (yy : Unit)=>f19 xx.1.1 xx.1.2 xx.2.1.1 xx.2.1.2 (fun n0_1=>K (I n0_1) [])
theorem f19_eq (es_13 : LL) (full_14 : Bool) (es_15 : LL) (full_16 : Bool) (K : TV→List Entry→Prop) : (f19_d es_13 full_14 es_15 full_16 (fun n0_1=>K (I n0_1) [])) = funcT f19_C Tryz.f19 [.w (.one (.p (.sl 15 es_13 full_14))),.w (.one (.p (.sl 2 es_15 full_16)))] [] K:=by kernel_rfl
set_option maxHeartbeats 4000000 in
theorem f19_ok0 : FnOk Tryz.prog glob 19 f19_G0:=by
  refine FnOk.of_text (C:=f19_C) tab_ok.ok (Known.add f56_G_ok (Known.add f55_G_ok (Known.add f54_G_ok (Known.none)))) follows_ok (fn:=Tryz.f19) (by kernel_rfl) (by kernel_rfl) (by kernel_rfl) (fun c hc=>?_) fun tm hp K h=>?_
  · have e : c = bodyOf Tryz.f19:=Option.some.inj (hc.symm.trans (by kernel_rfl))
    subst e
    exact ⟨LoopsOk.of [bd Tryz.f19 0] (by kernel_rfl) ⟨f19_p14_ok,trivial⟩,TailsOk.of (tab:=f19_tab) rfl [] (by kernel_rfl) trivial⟩
  · unfold f19_G0 at h
    obtain ⟨xx,yy,rfl,rfl,h⟩:=getS_elim h
    have e:=(f19_eq xx.1.1 xx.1.2 xx.2.1.1 xx.2.1.2 K).trans (show _ = funcT f19_C Tryz.f19 (mkR _ xx) (mkE _ yy) K by kernel_rfl)
    rw [← e]
    exact h.run
abbrev f19_G:=f19_G0
theorem f19_G_ok : FnOk Tryz.prog glob 19 f19_G:=f19_ok0
def f57_d (es1 : LL) (full2 : Bool) (es3 : LL) (full4 : Bool) (n5 : Int) (k0 : Int→Prop) : Prop:=f18 es1 full2 es3 full4 (fun n6=>bB (n6 != 0) (k0 n6) (f33 n5 (fun b7=>bB (!b7) (k0 1) (k0 0))))
structure f57 (es1 : LL) (full2 : Bool) (es3 : LL) (full4 : Bool) (n5 : Int) (k0 : Int→Prop) : Prop where
  run : f57_d es1 full2 es3 full4 n5 k0
def f57_tab : List (Nat×Told):=[]
def f57_call : FuncId→List TV→List Entry→(TV→List Entry→Prop)→Prop:=addCall 33 f33_G (addCall 18 f18_G (noCalls))
def f57_C : Ctx:=mkC [] [] [] [] [] false 0 true (lookL f57_tab) f57_call
def f57_G0 : List TV→List Entry→(TV→List Entry→Prop)→Prop:=fun tm hp K=>getS [.v (.one (.sl 15)),.v (.one (.sl 2)),.v (.one (.int .i64))] [] tm hp fun (xx : ((LL×Bool)×((LL×Bool)×(Int×Unit)))) (yy : Unit)=>f57 xx.1.1 xx.1.2 xx.2.1.1 xx.2.1.2 xx.2.2.1 (fun n0_0=>K (I n0_0) [])
theorem f57_eq (es_1 : LL) (full_2 : Bool) (es_3 : LL) (full_4 : Bool) (n_5 : Int) (K : TV→List Entry→Prop) : (f57_d es_1 full_2 es_3 full_4 n_5 (fun n0_0=>K (I n0_0) [])) = funcT f57_C Tryz.f57 [.w (.one (.p (.sl 15 es_1 full_2))),.w (.one (.p (.sl 2 es_3 full_4))),I n_5] [] K:=by kernel_rfl
set_option maxHeartbeats 4000000 in
theorem f57_ok0 : FnOk Tryz.prog glob 57 f57_G0:=by
  refine FnOk.of_text (C:=f57_C) tab_ok.ok (Known.add f33_G_ok (Known.add f18_G_ok (Known.none))) follows_ok (fn:=Tryz.f57) (by kernel_rfl) (by kernel_rfl) (by kernel_rfl) (fun c hc=>?_) fun tm hp K h=>?_
  · have e : c = bodyOf Tryz.f57:=Option.some.inj (hc.symm.trans (by kernel_rfl))
    subst e
    exact ⟨LoopsOk.of [] (by kernel_rfl) trivial,TailsOk.of (tab:=f57_tab) rfl [] (by kernel_rfl) trivial⟩
  · unfold f57_G0 at h
    obtain ⟨xx,yy,rfl,rfl,h⟩:=getS_elim h
    have e:=(f57_eq xx.1.1 xx.1.2 xx.2.1.1 xx.2.1.2 xx.2.2.1 K).trans (show _ = funcT f57_C Tryz.f57 (mkR _ xx) (mkE _ yy) K by kernel_rfl)
    rw [← e]
    exact h.run
abbrev f57_G:=f57_G0
theorem f57_G_ok : FnOk Tryz.prog glob 57 f57_G:=f57_ok0
def f103_d (n1 : Int) (k0 : Bool→Prop) : Prop:=k0 (n1 != n1)
structure f103 (n1 : Int) (k0 : Bool→Prop) : Prop where
  run : f103_d n1 k0
def f103_tab : List (Nat×Told):=[]
def f103_call : FuncId→List TV→List Entry→(TV→List Entry→Prop)→Prop:=noCalls
def f103_C : Ctx:=mkC [] [] [] [] [] false 0 true (lookL f103_tab) f103_call
def f103_G0 : List TV→List Entry→(TV→List Entry→Prop)→Prop:=fun tm hp K=>getS [.v (.one (.int .i64))] [] tm hp fun (xx : (Int×Unit)) (yy : Unit)=>f103 xx.1 (fun b0_0=>K (B b0_0) [])
theorem f103_eq (n_1 : Int) (K : TV→List Entry→Prop) : (f103_d n_1 (fun b0_0=>K (B b0_0) [])) = funcT f103_C Tryz.f103 [I n_1] [] K:=by kernel_rfl
set_option maxHeartbeats 4000000 in
theorem f103_ok0 : FnOk Tryz.prog glob 103 f103_G0:=by
  refine FnOk.of_text (C:=f103_C) tab_ok.ok (Known.none) follows_ok (fn:=Tryz.f103) (by kernel_rfl) (by kernel_rfl) (by kernel_rfl) (fun c hc=>?_) fun tm hp K h=>?_
  · have e : c = bodyOf Tryz.f103:=Option.some.inj (hc.symm.trans (by kernel_rfl))
    subst e
    exact ⟨LoopsOk.of [] (by kernel_rfl) trivial,TailsOk.of (tab:=f103_tab) rfl [] (by kernel_rfl) trivial⟩
  · unfold f103_G0 at h
    obtain ⟨xx,yy,rfl,rfl,h⟩:=getS_elim h
    have e:=(f103_eq xx.1 K).trans (show _ = funcT f103_C Tryz.f103 (mkR _ xx) (mkE _ yy) K by kernel_rfl)
    rw [← e]
    exact h.run
abbrev f103_G:=f103_G0
theorem f103_G_ok : FnOk Tryz.prog glob 103 f103_G:=f103_ok0
def f92_d (n1 n2 : Int) (k0 : Int→Prop) : Prop:=f103 n1 (fun b3=>f103 n2 (fun b4=>bB b3 (bB b4 (k0 0) (k0 (-1))) (bB b4 (k0 1) (bB (decide (n1 < n2)) (k0 (-1)) (bB (decide (n1 > n2)) (k0 1) (k0 0))))))
structure f92 (n1 n2 : Int) (k0 : Int→Prop) : Prop where
  run : f92_d n1 n2 k0
def f92_tab : List (Nat×Told):=[]
def f92_call : FuncId→List TV→List Entry→(TV→List Entry→Prop)→Prop:=addCall 103 f103_G (noCalls)
def f92_C : Ctx:=mkC [] [] [] [] [] false 0 true (lookL f92_tab) f92_call
def f92_G0 : List TV→List Entry→(TV→List Entry→Prop)→Prop:=fun tm hp K=>getS [.v (.one (.int .i64)),.v (.one (.int .i64))] [] tm hp fun (xx : (Int×(Int×Unit))) (yy : Unit)=>f92 xx.1 xx.2.1 (fun n0_0=>K (I n0_0) [])
theorem f92_eq (n_1 n_2 : Int) (K : TV→List Entry→Prop) : (f92_d n_1 n_2 (fun n0_0=>K (I n0_0) [])) = funcT f92_C Tryz.f92 [I n_1,I n_2] [] K:=by kernel_rfl
set_option maxHeartbeats 4000000 in
theorem f92_ok0 : FnOk Tryz.prog glob 92 f92_G0:=by
  refine FnOk.of_text (C:=f92_C) tab_ok.ok (Known.add f103_G_ok (Known.none)) follows_ok (fn:=Tryz.f92) (by kernel_rfl) (by kernel_rfl) (by kernel_rfl) (fun c hc=>?_) fun tm hp K h=>?_
  · have e : c = bodyOf Tryz.f92:=Option.some.inj (hc.symm.trans (by kernel_rfl))
    subst e
    exact ⟨LoopsOk.of [] (by kernel_rfl) trivial,TailsOk.of (tab:=f92_tab) rfl [] (by kernel_rfl) trivial⟩
  · unfold f92_G0 at h
    obtain ⟨xx,yy,rfl,rfl,h⟩:=getS_elim h
    have e:=(f92_eq xx.1 xx.2.1 K).trans (show _ = funcT f92_C Tryz.f92 (mkR _ xx) (mkE _ yy) K by kernel_rfl)
    rw [← e]
    exact h.run
abbrev f92_G:=f92_G0
theorem f92_G_ok : FnOk Tryz.prog glob 92 f92_G:=f92_ok0
def f91_d (n1 n2 : Int) (es3 : LL) (full4 : Bool) (k0 : Int→(LL)→Bool→Prop) : Prop:=(0≤n1∧n1 < (es3.length : Int))∧oI .i64 (ext (List.getD es3 (Int.toNat n1) []) 13 1) fun n5=>(0≤n2∧n2 < (es3.length : Int))∧oI .i64 (ext (List.getD es3 (Int.toNat n2) []) 13 1) fun n6=>f92 n5 n6 (fun n7=>k0 n7 es3 full4)
structure f91 (n1 n2 : Int) (es3 : LL) (full4 : Bool) (k0 : Int→(LL)→Bool→Prop) : Prop where
  run : f91_d n1 n2 es3 full4 k0
def f91_tab : List (Nat×Told):=[]
def f91_call : FuncId→List TV→List Entry→(TV→List Entry→Prop)→Prop:=addCall 92 f92_G (noCalls)
def f91_C : Ctx:=mkC [] [] [] [] [] false 1 true (lookL f91_tab) f91_call
def f91_G0 : List TV→List Entry→(TV→List Entry→Prop)→Prop:=fun tm hp K=>getS [.v (.one (.int .i64)),.v (.one (.int .i64)),.v (.one (.ptr 0 0 0))] [.box [.sl 15]] tm hp fun (xx : (Int×(Int×(Unit×Unit)))) (yy : (((LL×Bool)×Unit)×Unit))=>f91 xx.1 xx.2.1 yy.1.1.1 yy.1.1.2 (fun n0_0 es0_1 full0_2=>K (I n0_0) [.box [.p (.sl 15 es0_1 full0_2)]])
theorem f91_eq (n_3 n_4 : Int) (es_5 : LL) (full_6 : Bool) (K : TV→List Entry→Prop) : (f91_d n_3 n_4 es_5 full_6 (fun n0_0 es0_1 full0_2=>K (I n0_0) [.box [.p (.sl 15 es0_1 full0_2)]])) = funcT f91_C Tryz.f91 [I n_3,I n_4,.w (.one (.ptr 0 0 0))] [.box [.p (.sl 15 es_5 full_6)]] K:=by kernel_rfl
set_option maxHeartbeats 4000000 in
theorem f91_ok0 : FnOk Tryz.prog glob 91 f91_G0:=by
  refine FnOk.of_text (C:=f91_C) tab_ok.ok (Known.add f92_G_ok (Known.none)) follows_ok (fn:=Tryz.f91) (by kernel_rfl) (by kernel_rfl) (by kernel_rfl) (fun c hc=>?_) fun tm hp K h=>?_
  · have e : c = bodyOf Tryz.f91:=Option.some.inj (hc.symm.trans (by kernel_rfl))
    subst e
    exact ⟨LoopsOk.of [] (by kernel_rfl) trivial,TailsOk.of (tab:=f91_tab) rfl [] (by kernel_rfl) trivial⟩
  · unfold f91_G0 at h
    obtain ⟨xx,yy,rfl,rfl,h⟩:=getS_elim h
    have e:=(f91_eq xx.1 xx.2.1 yy.1.1.1 yy.1.1.2 K).trans (show _ = funcT f91_C Tryz.f91 (mkR _ xx) (mkE _ yy) K by kernel_rfl)
    rw [← e]
    exact h.run
abbrev f91_G:=f91_G0
theorem f91_G_ok : FnOk Tryz.prog glob 91 f91_G:=f91_ok0
def f120_p13 (i30 n31 : Nat) (n32 n33 : Int) (n34 n35 : Int) (es36 es37 : LL) (full38 : Bool) (k0 : Int→(LL)→Prop) : Prop:=(0≤(w64 (n35 - 1))∧(w64 (n35 - 1)) < (n31 : Int))∧oI .i64 (ext (List.getD es36 (i30 + (Int.toNat (w64 (n35 - 1)))) []) 0 1) fun n39=>(0≤n35∧n35 < (n31 : Int))∧oI .i64 (ext (List.getD es36 (i30 + (Int.toNat n35)) []) 0 1) fun n40=>(0≤n35∧n35 < (n31 : Int))∧(i30 + (Int.toNat n35)) < es36.length∧(0≤(w64 (n35 - 1))∧(w64 (n35 - 1)) < (n31 : Int))∧(i30 + (Int.toNat (w64 (n35 - 1)))) < (List.set es36 (i30 + (Int.toNat n35)) (splice (List.getD es36 (i30 + (Int.toNat n35)) []) 0 [pI n39])).length∧k0 (w64 (n35 - 1)) (List.set (List.set es36 (i30 + (Int.toNat n35)) (splice (List.getD es36 (i30 + (Int.toNat n35)) []) 0 [pI n39])) (i30 + (Int.toNat (w64 (n35 - 1)))) (splice (List.getD (List.set es36 (i30 + (Int.toNat n35)) (splice (List.getD es36 (i30 + (Int.toNat n35)) []) 0 [pI n39])) (i30 + (Int.toNat (w64 (n35 - 1)))) []) 0 [pI n40]))
def f120_p8b0 (i16 n17 : Nat) (n18 n19 : Int) (n20 n21 : Int) (es22 es23 : LL) (full24 : Bool) (N0 : Int→(LL)→(LL)→Bool→Prop) (k0 : (LL)→(LL)→Bool→Prop) : Prop:=bB (decide (n21 > n18)) ((0≤n21∧n21 < (n17 : Int))∧oI .i64 (ext (List.getD es22 (i16 + (Int.toNat n21)) []) 0 1) fun n25=>(0≤(w64 (n21 - 1))∧(w64 (n21 - 1)) < (n17 : Int))∧oI .i64 (ext (List.getD es22 (i16 + (Int.toNat (w64 (n21 - 1)))) []) 0 1) fun n26=>f91 n25 n26 es23 full24 (fun n27 es28 full29=>bB (decide (n27 < 0)) (f120_p13 i16 n17 n18 n19 n20 n21 es22 es28 full29 (fun n41 es42=>N0 n41 es42 es28 full29)) (k0 es22 es28 full29))) (k0 es22 es23 full24)
def f120_p8 (i16 n17 : Nat) (n18 n19 n20 : Int) (k0 : (LL)→(LL)→Bool→Prop) : Int×(LL)×(LL)×Bool→Prop:=LoopP fun x N=>f120_p8b0 i16 n17 n18 n19 n20 x.1 x.2.1 x.2.2.1 x.2.2.2 (fun n21 es22 es23 full24=>N (n21,es22,es23,full24)) k0
def f120_p2b0 (i8 n9 : Nat) (n10 n11 n12 : Int) (es13 es14 : LL) (full15 : Bool) (N0 : Int→(LL)→(LL)→Bool→Prop) (k0 : (LL)→(LL)→Bool→Prop) : Prop:=bB (decide (n12 < n11)) (f120_p8 i8 n9 n10 n11 n12 (fun es43 es44 full45=>N0 (w64 (n12 + 1)) es43 es44 full45) (n12,es13,es14,full15)) (k0 es13 es14 full15)
def f120_p2 (i8 n9 : Nat) (n10 n11 : Int) (k0 : (LL)→(LL)→Bool→Prop) : Int×(LL)×(LL)×Bool→Prop:=LoopP fun x N=>f120_p2b0 i8 n9 n10 n11 x.1 x.2.1 x.2.2.1 x.2.2.2 (fun n12 es13 es14 full15=>N (n12,es13,es14,full15)) k0
def f120_d (i1 n2 : Nat) (n3 n4 : Int) (es5 es6 : LL) (full7 : Bool) (k0 : (LL)→(LL)→Bool→Prop) : Prop:=f120_p2 i1 n2 n3 n4 (fun es46 es47 full48=>k0 es46 es47 full48) ((w64 (n3 + 1)),es5,es6,full7)
structure f120 (i1 n2 : Nat) (n3 n4 : Int) (es5 es6 : LL) (full7 : Bool) (k0 : (LL)→(LL)→Bool→Prop) : Prop where
  run : f120_d i1 n2 n3 n4 es5 es6 full7 k0
def f120_p13L : Told:=fun s K=>match s with
  | ⟨tm,hp⟩=>getS [.v (.one (.ref 0)),.v (.one (.int .i64)),.v (.one (.int .i64)),.v (.clo 91 [] [.ptr 1 0 0]),.skip 4,.v (.one (.int .i64)),.v (.one (.int .i64)),.skip 43] [.vec 1 true,.box [.sl 15]] tm hp fun (xx : ((Nat×Nat)×(Int×(Int×((Unit×(Unit×Unit))×(Unit×(Int×(Int×(Unit×Unit))))))))) (yy : ((LL)×(((LL×Bool)×Unit)×Unit)))=>f120_p13 xx.1.1 xx.1.2 xx.2.1 xx.2.2.1 xx.2.2.2.2.2.1 xx.2.2.2.2.2.2.1 yy.1 yy.2.1.1.1 yy.2.1.1.2 (fun n0_0 es0_1=>K .normal ⟨mkS 53 [(0,.w (.one (.ref 0 xx.1.1 xx.1.2))),(1,I xx.2.1),(2,I xx.2.2.1),(3,.w (.one (.clo 91 [] [.ptr 1 0 0]))),(8,I xx.2.2.2.2.2.1),(9,I n0_0)],[.vec 1 es0_1 true,.box [.p (.sl 15 yy.2.1.1.1 yy.2.1.1.2)]]⟩)
def f120_p8L : Told:=fun s K=>match s with
  | ⟨tm,hp⟩=>getS [.v (.one (.ref 0)),.v (.one (.int .i64)),.v (.one (.int .i64)),.v (.clo 91 [] [.ptr 1 0 0]),.skip 4,.v (.one (.int .i64)),.v (.one (.int .i64)),.skip 43] [.vec 1 true,.box [.sl 15]] tm hp fun (xx : ((Nat×Nat)×(Int×(Int×((Unit×(Unit×Unit))×(Unit×(Int×(Int×(Unit×Unit))))))))) (yy : ((LL)×(((LL×Bool)×Unit)×Unit)))=>f120_p8 xx.1.1 xx.1.2 xx.2.1 xx.2.2.1 xx.2.2.2.2.2.1 (fun es0_2 es0_3 full0_4=>K (.exit 2) ⟨mkS 53 [(0,.w (.one (.ref 0 xx.1.1 xx.1.2))),(1,I xx.2.1),(2,I xx.2.2.1),(3,.w (.one (.clo 91 [] [.ptr 1 0 0]))),(8,I xx.2.2.2.2.2.1)],[.vec 1 es0_2 true,.box [.p (.sl 15 es0_3 full0_4)]]⟩) (xx.2.2.2.2.2.2.1,yy.1,yy.2.1.1.1,yy.2.1.1.2)
def f120_p2L : Told:=fun s K=>match s with
  | ⟨tm,hp⟩=>getS [.v (.one (.ref 0)),.v (.one (.int .i64)),.v (.one (.int .i64)),.v (.clo 91 [] [.ptr 1 0 0]),.skip 4,.v (.one (.int .i64)),.skip 44] [.vec 1 true,.box [.sl 15]] tm hp fun (xx : ((Nat×Nat)×(Int×(Int×((Unit×(Unit×Unit))×(Unit×(Int×(Unit×Unit)))))))) (yy : ((LL)×(((LL×Bool)×Unit)×Unit)))=>f120_p2 xx.1.1 xx.1.2 xx.2.1 xx.2.2.1 (fun es0_5 es0_6 full0_7=>K (.exit 0) ⟨mkS 53 [],[.vec 1 es0_5 true,.box [.p (.sl 15 es0_6 full0_7)]]⟩) (xx.2.2.2.2.2.1,yy.1,yy.2.1.1.1,yy.2.1.1.2)
def f120_tab : List (Nat×Told):=[(13,f120_p13L),(8,f120_p8L),(2,f120_p2L)]
def f120_call : FuncId→List TV→List Entry→(TV→List Entry→Prop)→Prop:=addCall 91 f91_G (noCalls)
def f120_C : Ctx:=mkC [(13,[(0,[0,1,2,3,8,9]),(1,[0,1,2,3,8,9]),(2,[]),(3,[]),(4,[0,1,2,3,8]),(5,[0,1,2,3,8])]),(8,[(0,[0,1,2,3,8,9]),(2,[]),(3,[]),(4,[0,1,2,3,8]),(5,[0,1,2,3,8])]),(2,[(0,[0,1,2,3,8]),(2,[]),(3,[])])] [] [] [] [] true 2 false (lookL f120_tab) f120_call
theorem f120_p13e0 (i_11 n_12 : Nat) (n_13 n_14 : Int) (n_15 n_16 : Int) (es_17 es_18 : LL) (full_19 : Bool) (K : TExit→St→Prop) : (f120_p13 i_11 n_12 n_13 n_14 n_15 n_16 es_17 es_18 full_19 (fun n0_20 es0_21=>K .normal ⟨mkS 53 [(0,.w (.one (.ref 0 i_11 n_12))),(1,I n_13),(2,I n_14),(3,.w (.one (.clo 91 [] [.ptr 1 0 0]))),(8,I n_15),(9,I n0_20)],[.vec 1 es0_21 true,.box [.p (.sl 15 es_18 full_19)]]⟩)) = execT f120_C (nthC (tails (bodyOf Tryz.f120)) 5) ⟨mkS 53 [(0,.w (.one (.ref 0 i_11 n_12))),(1,I n_13),(2,I n_14),(3,.w (.one (.clo 91 [] [.ptr 1 0 0]))),(8,I n_15),(9,I n_16)],[.vec 1 es_17 true,.box [.p (.sl 15 es_18 full_19)]]⟩ (fun e s=>K e (normOut f120_C 13 e s)):=by kernel_rfl
def f120_p8_mk (i16 n17 : Nat) (n18 n19 n20 : Int) (x : Int×(LL)×(LL)×Bool) : St:=⟨mkS 53 [(0,.w (.one (.ref 0 i16 n17))),(1,I n18),(2,I n19),(3,.w (.one (.clo 91 [] [.ptr 1 0 0]))),(8,I n20),(9,I x.1)],[.vec 1 x.2.1 true,.box [.p (.sl 15 x.2.2.1 x.2.2.2)]]⟩
theorem f120_p8e0 (i_31 n_32 : Nat) (n_33 n_34 : Int) (n_35 n_36 : Int) (es_37 es_38 : LL) (full_39 : Bool) (N : St→Prop) (K : TExit→St→Prop) : (f120_p8b0 i_31 n_32 n_33 n_34 n_35 n_36 es_37 es_38 full_39 (fun z5 z6 z7 z8=>N (f120_p8_mk i_31 n_32 n_33 n_34 n_35 (z5,z6,z7,z8))) (fun es0_40 es0_41 full0_42=>K (.exit 2) ⟨mkS 53 [(0,.w (.one (.ref 0 i_31 n_32))),(1,I n_33),(2,I n_34),(3,.w (.one (.clo 91 [] [.ptr 1 0 0]))),(8,I n_35)],[.vec 1 es0_40 true,.box [.p (.sl 15 es0_41 full0_42)]]⟩)) = execT f120_C (bd Tryz.f120 1) (f120_p8_mk i_31 n_32 n_33 n_34 n_35 (n_36,es_37,es_38,full_39)) (loopK N (normK f120_C 8) fun e s=>K e (normOut f120_C 8 e s)):=by kernel_rfl
def f120_p2_mk (i8 n9 : Nat) (n10 n11 : Int) (x : Int×(LL)×(LL)×Bool) : St:=⟨mkS 53 [(0,.w (.one (.ref 0 i8 n9))),(1,I n10),(2,I n11),(3,.w (.one (.clo 91 [] [.ptr 1 0 0]))),(8,I x.1)],[.vec 1 x.2.1 true,.box [.p (.sl 15 x.2.2.1 x.2.2.2)]]⟩
theorem f120_p2e0 (i_51 n_52 : Nat) (n_53 n_54 n_55 : Int) (es_56 es_57 : LL) (full_58 : Bool) (N : St→Prop) (K : TExit→St→Prop) : (f120_p2b0 i_51 n_52 n_53 n_54 n_55 es_56 es_57 full_58 (fun z4 z5 z6 z7=>N (f120_p2_mk i_51 n_52 n_53 n_54 (z4,z5,z6,z7))) (fun es0_59 es0_60 full0_61=>K (.exit 0) ⟨mkS 53 [],[.vec 1 es0_59 true,.box [.p (.sl 15 es0_60 full0_61)]]⟩)) = execT f120_C (bd Tryz.f120 0) (f120_p2_mk i_51 n_52 n_53 n_54 (n_55,es_56,es_57,full_58)) (loopK N (normK f120_C 2) fun e s=>K e (normOut f120_C 2 e s)):=by kernel_rfl
set_option maxHeartbeats 4000000 in
theorem f120_p13_ok : TailOk f120_C (nthC (tails (bodyOf Tryz.f120)) 5):=by
  refine TailOk.of f120_p13L (by kernel_rfl) fun σ K h=>?_
  have hk : joinKey (nthC (tails (bodyOf Tryz.f120)) 5) = 13:=by kernel_rfl
  rw [hk] at h ⊢
  generalize hs : normK f120_C 13 σ = s at h
  obtain ⟨tm,hp⟩:=s
  unfold f120_p13L at h
  dsimp only at h
  obtain ⟨xx,yy,rfl,rfl,h⟩:=getS_elim h
  have q : normK f120_C 13 σ = (⟨mkS 53 [(0,.w (.one (.ref 0 xx.1.1 xx.1.2))),(1,I xx.2.1),(2,I xx.2.2.1),(3,.w (.one (.clo 91 [] [.ptr 1 0 0]))),(8,I xx.2.2.2.2.2.1),(9,I xx.2.2.2.2.2.2.1)],[.vec 1 yy.1 true,.box [.p (.sl 15 yy.2.1.1.1 yy.2.1.1.2)]]⟩ : St):=hs.trans (by kernel_rfl)
  rw [← hs,q,← f120_p13e0 xx.1.1 xx.1.2 xx.2.1 xx.2.2.1 xx.2.2.2.2.2.1 xx.2.2.2.2.2.2.1 yy.1 yy.2.1.1.1 yy.2.1.1.2 K]
  exact h
set_option maxHeartbeats 4000000 in
theorem f120_p8_ok : LoopOk f120_C (bd Tryz.f120 1):=by
  refine LoopOk.of f120_p8L (by kernel_rfl) fun σ K h=>?_
  have hk : loopKey (bd Tryz.f120 1) = 8:=by kernel_rfl
  rw [hk] at h ⊢
  generalize hs : normK f120_C 8 σ = s at h
  obtain ⟨tm,hp⟩:=s
  unfold f120_p8L at h
  dsimp only at h
  obtain ⟨xx,yy,rfl,rfl,h⟩:=getS_elim h
  refine iter_of (f120_p8_mk xx.1.1 xx.1.2 xx.2.1 xx.2.2.1 xx.2.2.2.2.2.1) (fun x N h=>?_) rounds _ σ (hs.trans (by kernel_rfl)) (LoopP.run h)
  obtain ⟨y0,y1,y2,y3⟩:=x
  rw [← f120_p8e0 xx.1.1 xx.1.2 xx.2.1 xx.2.2.1 xx.2.2.2.2.2.1 y0 y1 y2 y3 N K]
  exact h
set_option maxHeartbeats 4000000 in
theorem f120_p2_ok : LoopOk f120_C (bd Tryz.f120 0):=by
  refine LoopOk.of f120_p2L (by kernel_rfl) fun σ K h=>?_
  have hk : loopKey (bd Tryz.f120 0) = 2:=by kernel_rfl
  rw [hk] at h ⊢
  generalize hs : normK f120_C 2 σ = s at h
  obtain ⟨tm,hp⟩:=s
  unfold f120_p2L at h
  dsimp only at h
  obtain ⟨xx,yy,rfl,rfl,h⟩:=getS_elim h
  refine iter_of (f120_p2_mk xx.1.1 xx.1.2 xx.2.1 xx.2.2.1) (fun x N h=>?_) rounds _ σ (hs.trans (by kernel_rfl)) (LoopP.run h)
  obtain ⟨y0,y1,y2,y3⟩:=x
  rw [← f120_p2e0 xx.1.1 xx.1.2 xx.2.1 xx.2.2.1 y0 y1 y2 y3 N K]
  exact h
def f120_G0 : List TV→List Entry→(TV→List Entry→Prop)→Prop:=fun tm hp K=>getS [.v (.one (.ref 0)),.v (.one (.int .i64)),.v (.one (.int .i64)),.v (.clo 91 [] [.ptr 1 0 0])] [.vec 1 true,.box [.sl 15]] tm hp fun (xx : ((Nat×Nat)×(Int×(Int×((Unit×(Unit×Unit))×Unit))))) (yy : ((LL)×(((LL×Bool)×Unit)×Unit)))=>f120 xx.1.1 xx.1.2 xx.2.1 xx.2.2.1 yy.1 yy.2.1.1.1 yy.2.1.1.2 (fun es0_8 es0_9 full0_10=>K undefT [.vec 1 es0_8 true,.box [.p (.sl 15 es0_9 full0_10)]])
theorem f120_eq (i_62 n_63 : Nat) (n_64 n_65 : Int) (es_66 es_67 : LL) (full_68 : Bool) (K : TV→List Entry→Prop) : (f120_d i_62 n_63 n_64 n_65 es_66 es_67 full_68 (fun es0_8 es0_9 full0_10=>K undefT [.vec 1 es0_8 true,.box [.p (.sl 15 es0_9 full0_10)]])) = funcT f120_C Tryz.f120 [.w (.one (.ref 0 i_62 n_63)),I n_64,I n_65,.w (.one (.clo 91 [] [.ptr 1 0 0]))] [.vec 1 es_66 true,.box [.p (.sl 15 es_67 full_68)]] K:=by kernel_rfl
set_option maxHeartbeats 4000000 in
theorem f120_ok0 : FnOk Tryz.prog glob 120 f120_G0:=by
  refine FnOk.of_text (C:=f120_C) tab_ok.ok (Known.add f91_G_ok (Known.none)) follows_ok (fn:=Tryz.f120) (by kernel_rfl) (by kernel_rfl) (by kernel_rfl) (fun c hc=>?_) fun tm hp K h=>?_
  · have e : c = bodyOf Tryz.f120:=Option.some.inj (hc.symm.trans (by kernel_rfl))
    subst e
    exact ⟨LoopsOk.of [bd Tryz.f120 0,bd Tryz.f120 1] (by kernel_rfl) ⟨f120_p2_ok,f120_p8_ok,trivial⟩,TailsOk.of (tab:=f120_tab) rfl [nthC (tails (bodyOf Tryz.f120)) 5] (by kernel_rfl) ⟨f120_p13_ok,trivial⟩⟩
  · unfold f120_G0 at h
    obtain ⟨xx,yy,rfl,rfl,h⟩:=getS_elim h
    have e:=(f120_eq xx.1.1 xx.1.2 xx.2.1 xx.2.2.1 yy.1 yy.2.1.1.1 yy.2.1.1.2 K).trans (show _ = funcT f120_C Tryz.f120 (mkR _ xx) (mkE _ yy) K by kernel_rfl)
    rw [← e]
    exact h.run
abbrev f120_G:=f120_G0
theorem f120_G_ok : FnOk Tryz.prog glob 120 f120_G:=f120_ok0
def f132_p2b0 (i9 n10 : Nat) (n11 n12 : Int) (n13 n14 : Int) (es15 es16 : LL) (full17 : Bool) (N0 : Int→(LL)→Prop) (k0 : (LL)→Prop) : Prop:=bB (decide (n14 < n13)) ((0≤(w64 (n12 + n14))∧(w64 (n12 + n14)) < (n10 : Int))∧oI .i64 (ext (List.getD es15 (i9 + (Int.toNat (w64 (n12 + n14)))) []) 0 1) fun n18=>(0≤(w64 (n11 + n14))∧(w64 (n11 + n14)) < (n10 : Int))∧oI .i64 (ext (List.getD es15 (i9 + (Int.toNat (w64 (n11 + n14)))) []) 0 1) fun n19=>(0≤(w64 (n11 + n14))∧(w64 (n11 + n14)) < (n10 : Int))∧(i9 + (Int.toNat (w64 (n11 + n14)))) < es15.length∧(0≤(w64 (n12 + n14))∧(w64 (n12 + n14)) < (n10 : Int))∧(i9 + (Int.toNat (w64 (n12 + n14)))) < (List.set es15 (i9 + (Int.toNat (w64 (n11 + n14)))) (splice (List.getD es15 (i9 + (Int.toNat (w64 (n11 + n14)))) []) 0 [pI n18])).length∧N0 (w64 (n14 + 1)) (List.set (List.set es15 (i9 + (Int.toNat (w64 (n11 + n14)))) (splice (List.getD es15 (i9 + (Int.toNat (w64 (n11 + n14)))) []) 0 [pI n18])) (i9 + (Int.toNat (w64 (n12 + n14)))) (splice (List.getD (List.set es15 (i9 + (Int.toNat (w64 (n11 + n14)))) (splice (List.getD es15 (i9 + (Int.toNat (w64 (n11 + n14)))) []) 0 [pI n18])) (i9 + (Int.toNat (w64 (n12 + n14)))) []) 0 [pI n19]))) (k0 es15)
def f132_p2 (i9 n10 : Nat) (n11 n12 n13 : Int) (es16 : LL) (full17 : Bool) (k0 : (LL)→Prop) : Int×(LL)→Prop:=LoopP fun x N=>f132_p2b0 i9 n10 n11 n12 n13 x.1 x.2 es16 full17 (fun n14 es15=>N (n14,es15)) k0
def f132_d (i1 n2 : Nat) (n3 n4 n5 : Int) (es6 es7 : LL) (full8 : Bool) (k0 : (LL)→(LL)→Bool→Prop) : Prop:=f132_p2 i1 n2 n3 n4 n5 es7 full8 (fun es20=>k0 es20 es7 full8) (0,es6)
structure f132 (i1 n2 : Nat) (n3 n4 n5 : Int) (es6 es7 : LL) (full8 : Bool) (k0 : (LL)→(LL)→Bool→Prop) : Prop where
  run : f132_d i1 n2 n3 n4 n5 es6 es7 full8 k0
def f132_p2L : Told:=fun s K=>match s with
  | ⟨tm,hp⟩=>getS [.v (.one (.ref 0)),.v (.one (.int .i64)),.v (.one (.int .i64)),.v (.one (.int .i64)),.skip 6,.v (.one (.int .i64)),.skip 27] [.vec 1 true,.box [.sl 15]] tm hp fun (xx : ((Nat×Nat)×(Int×(Int×(Int×(Unit×(Int×(Unit×Unit)))))))) (yy : ((LL)×(((LL×Bool)×Unit)×Unit)))=>f132_p2 xx.1.1 xx.1.2 xx.2.1 xx.2.2.1 xx.2.2.2.1 yy.2.1.1.1 yy.2.1.1.2 (fun es0_0=>K (.exit 0) ⟨mkS 38 [],[.vec 1 es0_0 true,.box [.p (.sl 15 yy.2.1.1.1 yy.2.1.1.2)]]⟩) (xx.2.2.2.2.2.1,yy.1)
def f132_tab : List (Nat×Told):=[(2,f132_p2L)]
def f132_call : FuncId→List TV→List Entry→(TV→List Entry→Prop)→Prop:=noCalls
def f132_C : Ctx:=mkC [(2,[(0,[0,1,2,3,10]),(2,[]),(3,[])])] [] [] [] [] true 2 false (lookL f132_tab) f132_call
def f132_p2_mk (i9 n10 : Nat) (n11 n12 n13 : Int) (es16 : LL) (full17 : Bool) (x : Int×(LL)) : St:=⟨mkS 38 [(0,.w (.one (.ref 0 i9 n10))),(1,I n11),(2,I n12),(3,I n13),(10,I x.1)],[.vec 1 x.2 true,.box [.p (.sl 15 es16 full17)]]⟩
theorem f132_p2e0 (i_13 n_14 : Nat) (n_15 n_16 : Int) (n_17 n_18 : Int) (es_19 es_20 : LL) (full_21 : Bool) (N : St→Prop) (K : TExit→St→Prop) : (f132_p2b0 i_13 n_14 n_15 n_16 n_17 n_18 es_19 es_20 full_21 (fun z5 z6=>N (f132_p2_mk i_13 n_14 n_15 n_16 n_17 es_20 full_21 (z5,z6))) (fun es0_22=>K (.exit 0) ⟨mkS 38 [],[.vec 1 es0_22 true,.box [.p (.sl 15 es_20 full_21)]]⟩)) = execT f132_C (bd Tryz.f132 0) (f132_p2_mk i_13 n_14 n_15 n_16 n_17 es_20 full_21 (n_18,es_19)) (loopK N (normK f132_C 2) fun e s=>K e (normOut f132_C 2 e s)):=by kernel_rfl
set_option maxHeartbeats 4000000 in
theorem f132_p2_ok : LoopOk f132_C (bd Tryz.f132 0):=by
  refine LoopOk.of f132_p2L (by kernel_rfl) fun σ K h=>?_
  have hk : loopKey (bd Tryz.f132 0) = 2:=by kernel_rfl
  rw [hk] at h ⊢
  generalize hs : normK f132_C 2 σ = s at h
  obtain ⟨tm,hp⟩:=s
  unfold f132_p2L at h
  dsimp only at h
  obtain ⟨xx,yy,rfl,rfl,h⟩:=getS_elim h
  refine iter_of (f132_p2_mk xx.1.1 xx.1.2 xx.2.1 xx.2.2.1 xx.2.2.2.1 yy.2.1.1.1 yy.2.1.1.2) (fun x N h=>?_) rounds _ σ (hs.trans (by kernel_rfl)) (LoopP.run h)
  obtain ⟨y0,y1⟩:=x
  rw [← f132_p2e0 xx.1.1 xx.1.2 xx.2.1 xx.2.2.1 xx.2.2.2.1 y0 y1 yy.2.1.1.1 yy.2.1.1.2 N K]
  exact h
def f132_G0 : List TV→List Entry→(TV→List Entry→Prop)→Prop:=fun tm hp K=>getS [.v (.one (.ref 0)),.v (.one (.int .i64)),.v (.one (.int .i64)),.v (.one (.int .i64)),.v (.clo 91 [] [.ptr 1 0 0])] [.vec 1 true,.box [.sl 15]] tm hp fun (xx : ((Nat×Nat)×(Int×(Int×(Int×((Unit×(Unit×Unit))×Unit)))))) (yy : ((LL)×(((LL×Bool)×Unit)×Unit)))=>f132 xx.1.1 xx.1.2 xx.2.1 xx.2.2.1 xx.2.2.2.1 yy.1 yy.2.1.1.1 yy.2.1.1.2 (fun es0_1 es0_2 full0_3=>K undefT [.vec 1 es0_1 true,.box [.p (.sl 15 es0_2 full0_3)]])
theorem f132_eq (i_23 n_24 : Nat) (n_25 n_26 n_27 : Int) (es_28 es_29 : LL) (full_30 : Bool) (K : TV→List Entry→Prop) : (f132_d i_23 n_24 n_25 n_26 n_27 es_28 es_29 full_30 (fun es0_1 es0_2 full0_3=>K undefT [.vec 1 es0_1 true,.box [.p (.sl 15 es0_2 full0_3)]])) = funcT f132_C Tryz.f132 [.w (.one (.ref 0 i_23 n_24)),I n_25,I n_26,I n_27,.w (.one (.clo 91 [] [.ptr 1 0 0]))] [.vec 1 es_28 true,.box [.p (.sl 15 es_29 full_30)]] K:=by kernel_rfl
set_option maxHeartbeats 4000000 in
theorem f132_ok0 : FnOk Tryz.prog glob 132 f132_G0:=by
  refine FnOk.of_text (C:=f132_C) tab_ok.ok (Known.none) follows_ok (fn:=Tryz.f132) (by kernel_rfl) (by kernel_rfl) (by kernel_rfl) (fun c hc=>?_) fun tm hp K h=>?_
  · have e : c = bodyOf Tryz.f132:=Option.some.inj (hc.symm.trans (by kernel_rfl))
    subst e
    exact ⟨LoopsOk.of [bd Tryz.f132 0] (by kernel_rfl) ⟨f132_p2_ok,trivial⟩,TailsOk.of (tab:=f132_tab) rfl [] (by kernel_rfl) trivial⟩
  · unfold f132_G0 at h
    obtain ⟨xx,yy,rfl,rfl,h⟩:=getS_elim h
    have e:=(f132_eq xx.1.1 xx.1.2 xx.2.1 xx.2.2.1 xx.2.2.2.1 yy.1 yy.2.1.1.1 yy.2.1.1.2 K).trans (show _ = funcT f132_C Tryz.f132 (mkR _ xx) (mkE _ yy) K by kernel_rfl)
    rw [← e]
    exact h.run
abbrev f132_G:=f132_G0
theorem f132_G_ok : FnOk Tryz.prog glob 132 f132_G:=f132_ok0
def f130_p4b0 (i9 n10 : Nat) (n11 n12 n13 : Int) (es14 es15 : LL) (full16 : Bool) (N0 : Int→Int→(LL)→(LL)→Bool→Prop) (k0 : Int→(LL)→(LL)→Bool→Prop) : Prop:=bB (n12 != n13) (bB (decide (n12 > n13)) (f132 i9 n10 (w64 (n11 - n12)) n11 n13 es14 es15 full16 (fun es17 es18 full19=>N0 (w64 (n12 - n13)) n13 es17 es18 full19)) (f132 i9 n10 (w64 (n11 - n12)) (w64 ((w64 (n11 + n13)) - n12)) n12 es14 es15 full16 (fun es20 es21 full22=>N0 n12 (w64 (n13 - n12)) es20 es21 full22))) (k0 n12 es14 es15 full16)
def f130_p4 (i9 n10 : Nat) (n11 : Int) (k0 : Int→(LL)→(LL)→Bool→Prop) : Int×Int×(LL)×(LL)×Bool→Prop:=LoopP fun x N=>f130_p4b0 i9 n10 n11 x.1 x.2.1 x.2.2.1 x.2.2.2.1 x.2.2.2.2 (fun n12 n13 es14 es15 full16=>N (n12,n13,es14,es15,full16)) k0
def f130_d (i1 n2 : Nat) (n3 n4 n5 : Int) (es6 es7 : LL) (full8 : Bool) (k0 : (LL)→(LL)→Bool→Prop) : Prop:=f130_p4 i1 n2 n4 (fun n23 es24 es25 full26=>f132 i1 n2 (w64 (n4 - n23)) n4 n23 es24 es25 full26 (fun es27 es28 full29=>k0 es27 es28 full29)) ((w64 (n4 - n3)),(w64 (n5 - n4)),es6,es7,full8)
structure f130 (i1 n2 : Nat) (n3 n4 n5 : Int) (es6 es7 : LL) (full8 : Bool) (k0 : (LL)→(LL)→Bool→Prop) : Prop where
  run : f130_d i1 n2 n3 n4 n5 es6 es7 full8 k0
def f130_p4L : Told:=fun s K=>match s with
  | ⟨tm,hp⟩=>getS [.v (.one (.ref 0)),.skip 1,.v (.one (.int .i64)),.skip 1,.v (.clo 91 [] [.ptr 1 0 0]),.skip 5,.v (.one (.int .i64)),.v (.one (.int .i64)),.skip 46] [.vec 1 true,.box [.sl 15]] tm hp fun (xx : ((Nat×Nat)×(Unit×(Int×(Unit×((Unit×(Unit×Unit))×(Unit×(Int×(Int×(Unit×Unit)))))))))) (yy : ((LL)×(((LL×Bool)×Unit)×Unit)))=>f130_p4 xx.1.1 xx.1.2 xx.2.2.1 (fun n0_0 es0_1 es0_2 full0_3=>K (.exit 0) ⟨mkS 58 [(0,.w (.one (.ref 0 xx.1.1 xx.1.2))),(2,I xx.2.2.1),(4,.w (.one (.clo 91 [] [.ptr 1 0 0]))),(10,I n0_0)],[.vec 1 es0_1 true,.box [.p (.sl 15 es0_2 full0_3)]]⟩) (xx.2.2.2.2.2.2.1,xx.2.2.2.2.2.2.2.1,yy.1,yy.2.1.1.1,yy.2.1.1.2)
def f130_tab : List (Nat×Told):=[(4,f130_p4L)]
def f130_call : FuncId→List TV→List Entry→(TV→List Entry→Prop)→Prop:=addCall 132 f132_G (noCalls)
def f130_C : Ctx:=mkC [(4,[(0,[0,2,4,10,11]),(2,[]),(3,[0,2,4,10])])] [] [] [] [] true 2 false (lookL f130_tab) f130_call
def f130_p4_mk (i9 n10 : Nat) (n11 : Int) (x : Int×Int×(LL)×(LL)×Bool) : St:=⟨mkS 58 [(0,.w (.one (.ref 0 i9 n10))),(2,I n11),(4,.w (.one (.clo 91 [] [.ptr 1 0 0]))),(10,I x.1),(11,I x.2.1)],[.vec 1 x.2.2.1 true,.box [.p (.sl 15 x.2.2.2.1 x.2.2.2.2)]]⟩
theorem f130_p4e0 (i_15 n_16 : Nat) (n_17 n_18 n_19 : Int) (es_20 es_21 : LL) (full_22 : Bool) (N : St→Prop) (K : TExit→St→Prop) : (f130_p4b0 i_15 n_16 n_17 n_18 n_19 es_20 es_21 full_22 (fun z3 z4 z5 z6 z7=>N (f130_p4_mk i_15 n_16 n_17 (z3,z4,z5,z6,z7))) (fun n0_23 es0_24 es0_25 full0_26=>K (.exit 0) ⟨mkS 58 [(0,.w (.one (.ref 0 i_15 n_16))),(2,I n_17),(4,.w (.one (.clo 91 [] [.ptr 1 0 0]))),(10,I n0_23)],[.vec 1 es0_24 true,.box [.p (.sl 15 es0_25 full0_26)]]⟩)) = execT f130_C (bd Tryz.f130 0) (f130_p4_mk i_15 n_16 n_17 (n_18,n_19,es_20,es_21,full_22)) (loopK N (normK f130_C 4) fun e s=>K e (normOut f130_C 4 e s)):=by kernel_rfl
set_option maxHeartbeats 4000000 in
theorem f130_p4_ok : LoopOk f130_C (bd Tryz.f130 0):=by
  refine LoopOk.of f130_p4L (by kernel_rfl) fun σ K h=>?_
  have hk : loopKey (bd Tryz.f130 0) = 4:=by kernel_rfl
  rw [hk] at h ⊢
  generalize hs : normK f130_C 4 σ = s at h
  obtain ⟨tm,hp⟩:=s
  unfold f130_p4L at h
  dsimp only at h
  obtain ⟨xx,yy,rfl,rfl,h⟩:=getS_elim h
  refine iter_of (f130_p4_mk xx.1.1 xx.1.2 xx.2.2.1) (fun x N h=>?_) rounds _ σ (hs.trans (by kernel_rfl)) (LoopP.run h)
  obtain ⟨y0,y1,y2,y3,y4⟩:=x
  rw [← f130_p4e0 xx.1.1 xx.1.2 xx.2.2.1 y0 y1 y2 y3 y4 N K]
  exact h
def f130_G0 : List TV→List Entry→(TV→List Entry→Prop)→Prop:=fun tm hp K=>getS [.v (.one (.ref 0)),.v (.one (.int .i64)),.v (.one (.int .i64)),.v (.one (.int .i64)),.v (.clo 91 [] [.ptr 1 0 0])] [.vec 1 true,.box [.sl 15]] tm hp fun (xx : ((Nat×Nat)×(Int×(Int×(Int×((Unit×(Unit×Unit))×Unit)))))) (yy : ((LL)×(((LL×Bool)×Unit)×Unit)))=>f130 xx.1.1 xx.1.2 xx.2.1 xx.2.2.1 xx.2.2.2.1 yy.1 yy.2.1.1.1 yy.2.1.1.2 (fun es0_4 es0_5 full0_6=>K undefT [.vec 1 es0_4 true,.box [.p (.sl 15 es0_5 full0_6)]])
theorem f130_eq (i_27 n_28 : Nat) (n_29 n_30 n_31 : Int) (es_32 es_33 : LL) (full_34 : Bool) (K : TV→List Entry→Prop) : (f130_d i_27 n_28 n_29 n_30 n_31 es_32 es_33 full_34 (fun es0_4 es0_5 full0_6=>K undefT [.vec 1 es0_4 true,.box [.p (.sl 15 es0_5 full0_6)]])) = funcT f130_C Tryz.f130 [.w (.one (.ref 0 i_27 n_28)),I n_29,I n_30,I n_31,.w (.one (.clo 91 [] [.ptr 1 0 0]))] [.vec 1 es_32 true,.box [.p (.sl 15 es_33 full_34)]] K:=by kernel_rfl
set_option maxHeartbeats 4000000 in
theorem f130_ok0 : FnOk Tryz.prog glob 130 f130_G0:=by
  refine FnOk.of_text (C:=f130_C) tab_ok.ok (Known.add f132_G_ok (Known.none)) follows_ok (fn:=Tryz.f130) (by kernel_rfl) (by kernel_rfl) (by kernel_rfl) (fun c hc=>?_) fun tm hp K h=>?_
  · have e : c = bodyOf Tryz.f130:=Option.some.inj (hc.symm.trans (by kernel_rfl))
    subst e
    exact ⟨LoopsOk.of [bd Tryz.f130 0] (by kernel_rfl) ⟨f130_p4_ok,trivial⟩,TailsOk.of (tab:=f130_tab) rfl [] (by kernel_rfl) trivial⟩
  · unfold f130_G0 at h
    obtain ⟨xx,yy,rfl,rfl,h⟩:=getS_elim h
    have e:=(f130_eq xx.1.1 xx.1.2 xx.2.1 xx.2.2.1 xx.2.2.2.1 yy.1 yy.2.1.1.1 yy.2.1.1.2 K).trans (show _ = funcT f130_C Tryz.f130 (mkR _ xx) (mkE _ yy) K by kernel_rfl)
    rw [← e]
    exact h.run
abbrev f130_G:=f130_G0
theorem f130_G_ok : FnOk Tryz.prog glob 130 f130_G:=f130_ok0
end
end Go.Eng.N
