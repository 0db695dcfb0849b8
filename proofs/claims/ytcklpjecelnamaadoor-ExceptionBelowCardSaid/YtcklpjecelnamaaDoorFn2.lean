/- What the functions that the law reaches compute, by the engine; written by program. -/
import Derived.Test.YtcklpjecelnamaaDoorFn1
import Derived.Test.YtcklpjecelnamaaDoorEng3
import Derived.Test.YtcklpjecelnamaaDoorShelf
set_option linter.unusedVariables false
set_option maxRecDepth 100000
open Go Go.Eng Go.Proofs
namespace Go.Eng.N
noncomputable section
def f59_1_d (es1 : LL) (full2 : Bool) (k0 : Bool→Prop) : Prop:=f83_1 es1 full2 (fun n3=>k0 (decide (n3≥0)))
structure f59_1 (es1 : LL) (full2 : Bool) (k0 : Bool→Prop) : Prop where
  run : f59_1_d es1 full2 k0
def f59_1_tab : List (Nat×Told):=[]
def f59_1_call : FuncId→List TV→List Entry→(TV→List Entry→Prop)→Prop:=addCall 83 f83_1_G (noCalls)
def f59_1_C : Ctx:=mkC [] [] [] [] [] false 0 true (lookL f59_1_tab) f59_1_call
def f59_1_G0 : List TV→List Entry→(TV→List Entry→Prop)→Prop:=fun tm hp K=>getS [.v (.one (.sl 3)),.v (.one (.fn 63))] [] tm hp fun (xx : ((LL×Bool)×(Unit×Unit))) (yy : Unit)=>f59_1 xx.1.1 xx.1.2 (fun b0_0=>K (B b0_0) [])
theorem f59_1_eq (es_1 : LL) (full_2 : Bool) (K : TV→List Entry→Prop) : (f59_1_d es_1 full_2 (fun b0_0=>K (B b0_0) [])) = funcT f59_1_C Tryd.f59 [.w (.one (.p (.sl 3 es_1 full_2))),.w (.one (.p (.c (.func (.func 63) #[] #[]))))] [] K:=by kernel_rfl
set_option maxHeartbeats 4000000 in
theorem f59_1_ok0 : FnOk Tryd.prog glob 59 f59_1_G0:=by
  refine FnOk.of_text (C:=f59_1_C) tab_ok.ok (Known.add f83_1_G_ok (Known.none)) follows_ok (fn:=Tryd.f59) (by kernel_rfl) (by kernel_rfl) (by kernel_rfl) (fun c hc=>?_) fun tm hp K h=>?_
  · have e : c = bodyOf Tryd.f59:=Option.some.inj (hc.symm.trans (by kernel_rfl))
    subst e
    exact ⟨LoopsOk.of [] (by kernel_rfl) trivial,TailsOk.of (tab:=f59_1_tab) rfl [] (by kernel_rfl) trivial⟩
  · unfold f59_1_G0 at h
    obtain ⟨xx,yy,rfl,rfl,h⟩:=getS_elim h
    have e:=(f59_1_eq xx.1.1 xx.1.2 K).trans (show _ = funcT f59_1_C Tryd.f59 (mkR _ xx) (mkE _ yy) K by kernel_rfl)
    rw [← e]
    exact h.run
def f59_1_G : List TV→List Entry→(TV→List Entry→Prop)→Prop:=fun args H K=>bif isSig (sigOf args H) [5,1063,7] then f59_1_G0 args H K else f59_G args H K
theorem f59_1_G_ok : FnOk Tryd.prog glob 59 f59_1_G:=FnOk.or _ f59_1_ok0 f59_G_ok
def f62_d (n1 : Int) (s2 : ByteArray) (n3 n4 : Int) (n5 n6 : Int) (n7 n8 : Int) (n9 n10 : Int) (n11 n12 n13 : Int) (s14 : ByteArray) (n15 : Int) (es16 : LL) (full17 : Bool) (k0 : Bool→Prop) : Prop:=f59_1 es16 full17 k0
structure f62 (n1 : Int) (s2 : ByteArray) (n3 n4 : Int) (n5 n6 : Int) (n7 n8 : Int) (n9 n10 : Int) (n11 n12 n13 : Int) (s14 : ByteArray) (n15 : Int) (es16 : LL) (full17 : Bool) (k0 : Bool→Prop) : Prop where
  run : f62_d n1 s2 n3 n4 n5 n6 n7 n8 n9 n10 n11 n12 n13 s14 n15 es16 full17 k0
def f62_tab : List (Nat×Told):=[]
def f62_call : FuncId→List TV→List Entry→(TV→List Entry→Prop)→Prop:=addCall 59 f59_1_G (noCalls)
def f62_C : Ctx:=mkC [] [] [] [] [] false 0 true (lookL f62_tab) f62_call
def f62_G0 : List TV→List Entry→(TV→List Entry→Prop)→Prop:=fun tm hp K=>getS [.v (.one (.int .i64)),.v (.pagg [.str,.int .i64,.int .i64,.int .i64,.int .i64,.int .i64,.int .i64,.int .i64,.int .i64,.int .i64,.int .i64,.int .i64,.str,.int .i64,.sl 3])] [] tm hp fun (xx : (Int×((ByteArray×(Int×(Int×(Int×(Int×(Int×(Int×(Int×(Int×(Int×(Int×(Int×(ByteArray×(Int×((LL×Bool)×Unit)))))))))))))))×Unit))) (yy : Unit)=>f62 xx.1 xx.2.1.1 xx.2.1.2.1 xx.2.1.2.2.1 xx.2.1.2.2.2.1 xx.2.1.2.2.2.2.1 xx.2.1.2.2.2.2.2.1 xx.2.1.2.2.2.2.2.2.1 xx.2.1.2.2.2.2.2.2.2.1 xx.2.1.2.2.2.2.2.2.2.2.1 xx.2.1.2.2.2.2.2.2.2.2.2.1 xx.2.1.2.2.2.2.2.2.2.2.2.2.1 xx.2.1.2.2.2.2.2.2.2.2.2.2.2.1 xx.2.1.2.2.2.2.2.2.2.2.2.2.2.2.1 xx.2.1.2.2.2.2.2.2.2.2.2.2.2.2.2.1 xx.2.1.2.2.2.2.2.2.2.2.2.2.2.2.2.2.1.1 xx.2.1.2.2.2.2.2.2.2.2.2.2.2.2.2.2.1.2 (fun b0_0=>K (B b0_0) [])
theorem f62_eq (n_1 : Int) (s_2 : ByteArray) (n_3 n_4 : Int) (n_5 n_6 : Int) (n_7 n_8 : Int) (n_9 n_10 : Int) (n_11 n_12 n_13 : Int) (s_14 : ByteArray) (n_15 : Int) (es_16 : LL) (full_17 : Bool) (K : TV→List Entry→Prop) : (f62_d n_1 s_2 n_3 n_4 n_5 n_6 n_7 n_8 n_9 n_10 n_11 n_12 n_13 s_14 n_15 es_16 full_17 (fun b0_0=>K (B b0_0) [])) = funcT f62_C Tryd.f62 [I n_1,.w (.pagg [pS s_2,pI n_3,pI n_4,pI n_5,pI n_6,pI n_7,pI n_8,pI n_9,pI n_10,pI n_11,pI n_12,pI n_13,pS s_14,pI n_15,.sl 3 es_16 full_17])] [] K:=by kernel_rfl
set_option maxHeartbeats 4000000 in
theorem f62_ok0 : FnOk Tryd.prog glob 62 f62_G0:=by
  refine FnOk.of_text (C:=f62_C) tab_ok.ok (Known.add f59_1_G_ok (Known.none)) follows_ok (fn:=Tryd.f62) (by kernel_rfl) (by kernel_rfl) (by kernel_rfl) (fun c hc=>?_) fun tm hp K h=>?_
  · have e : c = bodyOf Tryd.f62:=Option.some.inj (hc.symm.trans (by kernel_rfl))
    subst e
    exact ⟨LoopsOk.of [] (by kernel_rfl) trivial,TailsOk.of (tab:=f62_tab) rfl [] (by kernel_rfl) trivial⟩
  · unfold f62_G0 at h
    obtain ⟨xx,yy,rfl,rfl,h⟩:=getS_elim h
    have e:=(f62_eq xx.1 xx.2.1.1 xx.2.1.2.1 xx.2.1.2.2.1 xx.2.1.2.2.2.1 xx.2.1.2.2.2.2.1 xx.2.1.2.2.2.2.2.1 xx.2.1.2.2.2.2.2.2.1 xx.2.1.2.2.2.2.2.2.2.1 xx.2.1.2.2.2.2.2.2.2.2.1 xx.2.1.2.2.2.2.2.2.2.2.2.1 xx.2.1.2.2.2.2.2.2.2.2.2.2.1 xx.2.1.2.2.2.2.2.2.2.2.2.2.2.1 xx.2.1.2.2.2.2.2.2.2.2.2.2.2.2.1 xx.2.1.2.2.2.2.2.2.2.2.2.2.2.2.2.1 xx.2.1.2.2.2.2.2.2.2.2.2.2.2.2.2.2.1.1 xx.2.1.2.2.2.2.2.2.2.2.2.2.2.2.2.2.1.2 K).trans (show _ = funcT f62_C Tryd.f62 (mkR _ xx) (mkE _ yy) K by kernel_rfl)
    rw [← e]
    exact h.run
abbrev f62_G:=f62_G0
theorem f62_G_ok : FnOk Tryd.prog glob 62 f62_G:=f62_ok0
def f52_7_p4b0 (n4 : Int) (es5 : LL) (full6 : Bool) (n7 n8 : Int) (N0 : Int→Prop) (k0 : Unit→Prop) (k1 : Unit→Prop) : Prop:=bB (decide (n8 < n7)) ((0≤n8∧n8 < (es5.length : Int))∧cS (ext (List.getD es5 (Int.toNat n8) []) 0 15) fun s10 r9=>cI .i64 r9 fun n12 r11=>cI .i64 r11 fun n14 r13=>cI .i64 r13 fun n16 r15=>cI .i64 r15 fun n18 r17=>cI .i64 r17 fun n20 r19=>cI .i64 r19 fun n22 r21=>cI .i64 r21 fun n24 r23=>cI .i64 r23 fun n26 r25=>cI .i64 r25 fun n28 r27=>cI .i64 r27 fun n30 r29=>cI .i64 r29 fun n32 r31=>cS r31 fun s34 r33=>cI .i64 r33 fun n36 r35=>cL 3 r35 fun es38 full39 r37=>nilC r37 <| f62 n8 s10 n12 n14 n16 n18 n20 n22 n24 n26 n28 n30 n32 s34 n36 es38 full39 (fun b40=>bB b40 (k0 ()) (N0 (w64 (n8 + 1))))) (k1 ())
def f52_7_p4 (n4 : Int) (es5 : LL) (full6 : Bool) (n7 : Int) (k0 : Unit→Prop) (k1 : Unit→Prop) : Int→Prop:=LoopP fun x N=>f52_7_p4b0 n4 es5 full6 n7 x (fun n8=>N n8) k0 k1
def f52_7_d (es1 : LL) (full2 : Bool) (n3 : Int) (k0 : Int→Prop) : Prop:=f52_7_p4 n3 es1 full2 (es1.length : Int) (fun (_ : Unit)=>k0 n3) (fun (_ : Unit)=>k0 0) 0
structure f52_7 (es1 : LL) (full2 : Bool) (n3 : Int) (k0 : Int→Prop) : Prop where
  run : f52_7_d es1 full2 n3 k0
def f52_7_p4L : Told:=fun s K=>match s with
  | ⟨tm,hp⟩=>getS [.skip 1,.v (.one (.int .i64)),.v (.one (.fn 62)),.skip 6,.v (.one (.sl 15)),.v (.one (.int .i64)),.v (.one (.int .i64)),.skip 10] [] tm hp fun (xx : (Unit×(Int×(Unit×(Unit×((LL×Bool)×(Int×(Int×(Unit×Unit))))))))) (yy : Unit)=>f52_7_p4 xx.2.1 xx.2.2.2.2.1.1 xx.2.2.2.2.1.2 xx.2.2.2.2.2.1 (fun (_ : Unit)=>K .ret ⟨mkS 22 [(6,I xx.2.1)],[]⟩) (fun (_ : Unit)=>K (.exit 0) ⟨mkS 22 [],[]⟩) xx.2.2.2.2.2.2.1
def f52_7_tab : List (Nat×Told):=[(4,f52_7_p4L)]
def f52_7_call : FuncId→List TV→List Entry→(TV→List Entry→Prop)→Prop:=addCall 62 f62_G (noCalls)
def f52_7_C : Ctx:=mkC [(4,[(0,[1,2,9,10,11]),(2,[6]),(3,[])])] [] [] [] [] false 0 true (lookL f52_7_tab) f52_7_call
def f52_7_p4_mk (n4 : Int) (es5 : LL) (full6 : Bool) (n7 x : Int) : St:=⟨mkS 22 [(1,I n4),(2,.w (.one (.p (.c (.func (.func 62) #[] #[]))))),(9,.w (.one (.p (.sl 15 es5 full6)))),(10,I n7),(11,I x)],[]⟩
theorem f52_7_p4e0 (n_6 : Int) (es_7 : LL) (full_8 : Bool) (n_9 n_10 : Int) (N : St→Prop) (K : TExit→St→Prop) : (f52_7_p4b0 n_6 es_7 full_8 n_9 n_10 (fun z4=>N (f52_7_p4_mk n_6 es_7 full_8 n_9 z4)) (fun (_ : Unit)=>K .ret ⟨mkS 22 [(6,I n_6)],[]⟩) (fun (_ : Unit)=>K (.exit 0) ⟨mkS 22 [],[]⟩)) = execT f52_7_C (bd Tryd.f52 0) (f52_7_p4_mk n_6 es_7 full_8 n_9 n_10) (loopK N (normK f52_7_C 4) fun e s=>K e (normOut f52_7_C 4 e s)):=by kernel_rfl
set_option maxHeartbeats 4000000 in
theorem f52_7_p4_ok : LoopOk f52_7_C (bd Tryd.f52 0):=by
  refine LoopOk.of f52_7_p4L (by kernel_rfl) fun σ K h=>?_
  have hk : loopKey (bd Tryd.f52 0) = 4:=by kernel_rfl
  rw [hk] at h ⊢
  generalize hs : normK f52_7_C 4 σ = s at h
  obtain ⟨tm,hp⟩:=s
  unfold f52_7_p4L at h
  dsimp only at h
  obtain ⟨xx,yy,rfl,rfl,h⟩:=getS_elim h
  refine iter_of (f52_7_p4_mk xx.2.1 xx.2.2.2.2.1.1 xx.2.2.2.2.1.2 xx.2.2.2.2.2.1) (fun x N h=>?_) rounds _ σ (hs.trans (by kernel_rfl)) (LoopP.run h)
  rw [← f52_7_p4e0 xx.2.1 xx.2.2.2.2.1.1 xx.2.2.2.2.1.2 xx.2.2.2.2.2.1 x N K]
  exact h
def f52_7_G0 : List TV→List Entry→(TV→List Entry→Prop)→Prop:=fun tm hp K=>getS [.v (.one (.sl 15)),.v (.one (.int .i64)),.v (.one (.fn 62))] [] tm hp fun (xx : ((LL×Bool)×(Int×(Unit×Unit)))) (yy : Unit)=>f52_7 xx.1.1 xx.1.2 xx.2.1 (fun n0_0=>K (I n0_0) [])
theorem f52_7_eq (es_11 : LL) (full_12 : Bool) (n_13 : Int) (K : TV→List Entry→Prop) : (f52_7_d es_11 full_12 n_13 (fun n0_0=>K (I n0_0) [])) = funcT f52_7_C Tryd.f52 [.w (.one (.p (.sl 15 es_11 full_12))),I n_13,.w (.one (.p (.c (.func (.func 62) #[] #[]))))] [] K:=by kernel_rfl
set_option maxHeartbeats 4000000 in
theorem f52_7_ok0 : FnOk Tryd.prog glob 52 f52_7_G0:=by
  refine FnOk.of_text (C:=f52_7_C) tab_ok.ok (Known.add f62_G_ok (Known.none)) follows_ok (fn:=Tryd.f52) (by kernel_rfl) (by kernel_rfl) (by kernel_rfl) (fun c hc=>?_) fun tm hp K h=>?_
  · have e : c = bodyOf Tryd.f52:=Option.some.inj (hc.symm.trans (by kernel_rfl))
    subst e
    exact ⟨LoopsOk.of [bd Tryd.f52 0] (by kernel_rfl) ⟨f52_7_p4_ok,trivial⟩,TailsOk.of (tab:=f52_7_tab) rfl [] (by kernel_rfl) trivial⟩
  · unfold f52_7_G0 at h
    obtain ⟨xx,yy,rfl,rfl,h⟩:=getS_elim h
    have e:=(f52_7_eq xx.1.1 xx.1.2 xx.2.1 K).trans (show _ = funcT f52_7_C Tryd.f52 (mkR _ xx) (mkE _ yy) K by kernel_rfl)
    rw [← e]
    exact h.run
def f52_7_G : List TV→List Entry→(TV→List Entry→Prop)→Prop:=fun args H K=>bif isSig (sigOf args H) [5,2,1062,7] then f52_7_G0 args H K else f52_6_G args H K
theorem f52_7_G_ok : FnOk Tryd.prog glob 52 f52_7_G:=FnOk.or _ f52_7_ok0 f52_6_G_ok
def f7_p12b0 (es5 : LL) (full6 : Bool) (n7 n8 : Int) (N0 : Int→Prop) (k0 : Int→Prop) (k1 : Unit→Prop) : Prop:=bB (decide (n8 < n7)) ((0≤n8∧n8 < (es5.length : Int))∧cI .i64 (ext (List.getD es5 (Int.toNat n8) []) 0 11) fun n10 r9=>cI .i64 r9 fun n12 r11=>cI .i64 r11 fun n14 r13=>cI .i64 r13 fun n16 r15=>cI .i64 r15 fun n18 r17=>cI .i64 r17 fun n20 r19=>cI .i64 r19 fun n22 r21=>cI .i64 r21 fun n24 r23=>cI .i64 r23 fun n26 r25=>cI .i64 r25 fun n28 r27=>cI .i64 r27 fun n30 r29=>nilC r29 <| f16 n10 n12 n14 n16 n18 n20 n22 n24 n26 n28 n30 (fun n31=>bB (n31 != 0) (k0 n31) (N0 (w64 (n8 + 1))))) (k1 ())
def f7_p12 (es5 : LL) (full6 : Bool) (n7 : Int) (k0 : Int→Prop) (k1 : Unit→Prop) : Int→Prop:=LoopP fun x N=>f7_p12b0 es5 full6 n7 x (fun n8=>N n8) k0 k1
def f7_d (s1 : ByteArray) (es2 : LL) (full3 : Bool) (k0 : Int→Prop) : Prop:=f15 s1 (fun b4=>bB (!b4) (k0 4) (bB (decide ((es2.length : Int) > 32)) (k0 7) (f7_p12 es2 full3 (es2.length : Int) k0 (fun (_ : Unit)=>k0 0) 0)))
structure f7 (s1 : ByteArray) (es2 : LL) (full3 : Bool) (k0 : Int→Prop) : Prop where
  run : f7_d s1 es2 full3 k0
def f7_p12L : Told:=fun s K=>match s with
  | ⟨tm,hp⟩=>getS [.skip 15,.v (.one (.sl 11)),.v (.one (.int .i64)),.v (.one (.int .i64)),.skip 9] [] tm hp fun (xx : (Unit×((LL×Bool)×(Int×(Int×(Unit×Unit)))))) (yy : Unit)=>f7_p12 xx.2.1.1 xx.2.1.2 xx.2.2.1 (fun n0_0=>K .ret ⟨mkS 27 [(2,I n0_0)],[]⟩) (fun (_ : Unit)=>K (.exit 0) ⟨mkS 27 [],[]⟩) xx.2.2.2.1
def f7_tab : List (Nat×Told):=[(12,f7_p12L)]
def f7_call : FuncId→List TV→List Entry→(TV→List Entry→Prop)→Prop:=addCall 16 f16_G (addCall 15 f15_G (noCalls))
def f7_C : Ctx:=mkC [(12,[(0,[15,16,17]),(2,[2]),(3,[])])] [] [] [] [] false 0 true (lookL f7_tab) f7_call
def f7_p12_mk (es5 : LL) (full6 : Bool) (n7 x : Int) : St:=⟨mkS 27 [(15,.w (.one (.p (.sl 11 es5 full6)))),(16,I n7),(17,I x)],[]⟩
theorem f7_p12e0 (es_6 : LL) (full_7 : Bool) (n_8 n_9 : Int) (N : St→Prop) (K : TExit→St→Prop) : (f7_p12b0 es_6 full_7 n_8 n_9 (fun z3=>N (f7_p12_mk es_6 full_7 n_8 z3)) (fun n0_10=>K .ret ⟨mkS 27 [(2,I n0_10)],[]⟩) (fun (_ : Unit)=>K (.exit 0) ⟨mkS 27 [],[]⟩)) = execT f7_C (bd Tryd.f7 0) (f7_p12_mk es_6 full_7 n_8 n_9) (loopK N (normK f7_C 12) fun e s=>K e (normOut f7_C 12 e s)):=by kernel_rfl
set_option maxHeartbeats 4000000 in
theorem f7_p12_ok : LoopOk f7_C (bd Tryd.f7 0):=by
  refine LoopOk.of f7_p12L (by kernel_rfl) fun σ K h=>?_
  have hk : loopKey (bd Tryd.f7 0) = 12:=by kernel_rfl
  rw [hk] at h ⊢
  generalize hs : normK f7_C 12 σ = s at h
  obtain ⟨tm,hp⟩:=s
  unfold f7_p12L at h
  dsimp only at h
  obtain ⟨xx,yy,rfl,rfl,h⟩:=getS_elim h
  refine iter_of (f7_p12_mk xx.2.1.1 xx.2.1.2 xx.2.2.1) (fun x N h=>?_) rounds _ σ (hs.trans (by kernel_rfl)) (LoopP.run h)
  rw [← f7_p12e0 xx.2.1.1 xx.2.1.2 xx.2.2.1 x N K]
  exact h
def f7_G0 : List TV→List Entry→(TV→List Entry→Prop)→Prop:=fun tm hp K=>getS [.v (.pagg [.str,.sl 11])] [] tm hp fun (xx : ((ByteArray×((LL×Bool)×Unit))×Unit)) (yy : Unit)=>f7 xx.1.1 xx.1.2.1.1 xx.1.2.1.2 (fun n0_1=>K (I n0_1) [])
theorem f7_eq (s_11 : ByteArray) (es_12 : LL) (full_13 : Bool) (K : TV→List Entry→Prop) : (f7_d s_11 es_12 full_13 (fun n0_1=>K (I n0_1) [])) = funcT f7_C Tryd.f7 [.w (.pagg [pS s_11,.sl 11 es_12 full_13])] [] K:=by kernel_rfl
set_option maxHeartbeats 4000000 in
theorem f7_ok0 : FnOk Tryd.prog glob 7 f7_G0:=by
  refine FnOk.of_text (C:=f7_C) tab_ok.ok (Known.add f16_G_ok (Known.add f15_G_ok (Known.none))) follows_ok (fn:=Tryd.f7) (by kernel_rfl) (by kernel_rfl) (by kernel_rfl) (fun c hc=>?_) fun tm hp K h=>?_
  · have e : c = bodyOf Tryd.f7:=Option.some.inj (hc.symm.trans (by kernel_rfl))
    subst e
    exact ⟨LoopsOk.of [bd Tryd.f7 0] (by kernel_rfl) ⟨f7_p12_ok,trivial⟩,TailsOk.of (tab:=f7_tab) rfl [] (by kernel_rfl) trivial⟩
  · unfold f7_G0 at h
    obtain ⟨xx,yy,rfl,rfl,h⟩:=getS_elim h
    have e:=(f7_eq xx.1.1 xx.1.2.1.1 xx.1.2.1.2 K).trans (show _ = funcT f7_C Tryd.f7 (mkR _ xx) (mkE _ yy) K by kernel_rfl)
    rw [← e]
    exact h.run
abbrev f7_G:=f7_G0
theorem f7_G_ok : FnOk Tryd.prog glob 7 f7_G:=f7_ok0
def f38_p4b0 (es5 : LL) (full6 : Bool) (es7 : LL) (full8 : Bool) (n9 n10 : Int) (es11 : LL) (full12 : Bool) (N0 : Int→Prop) (k0 : Int→Prop) (k1 : Unit→Prop) : Prop:=bB (decide (n10 < n9)) ((0≤n10∧n10 < (es7.length : Int))∧cS (ext (List.getD es7 (Int.toNat n10) []) 0 2) fun s14 r13=>cL 11 r13 fun es16 full17 r15=>nilC r15 <| f7 s14 es16 full17 (fun n18=>bB (n18 != 0) (k0 n18) (N0 (w64 (n10 + 1))))) (k1 ())
def f38_p4 (es5 : LL) (full6 : Bool) (es7 : LL) (full8 : Bool) (n9 : Int) (es11 : LL) (full12 : Bool) (k0 : Int→Prop) (k1 : Unit→Prop) : Int→Prop:=LoopP fun x N=>f38_p4b0 es5 full6 es7 full8 n9 x es11 full12 (fun n10=>N n10) k0 k1
def f38_p18b0 (es20 : LL) (full21 : Bool) (n22 : Int) (es23 : LL) (full24 : Bool) (N0 : Int→Prop) (k0 : Int→Prop) (k1 : Unit→Prop) : Prop:=bB (decide (n22 < (es23.length : Int))) ((0≤(w64 (n22 - 1))∧(w64 (n22 - 1)) < (es23.length : Int))∧oS (ext (List.getD es23 (Int.toNat (w64 (n22 - 1))) []) 0 1) fun s25=>(0≤n22∧n22 < (es23.length : Int))∧oS (ext (List.getD es23 (Int.toNat n22) []) 0 1) fun s26=>bB (!(Op.bytesLess s25.toList s26.toList)) (k0 5) (N0 (w64 (n22 + 1)))) (k1 ())
def f38_p18 (es20 : LL) (full21 : Bool) (es23 : LL) (full24 : Bool) (k0 : Int→Prop) (k1 : Unit→Prop) : Int→Prop:=LoopP fun x N=>f38_p18b0 es20 full21 x es23 full24 (fun n22=>N n22) k0 k1
def f38_p40b0 (es37 : LL) (full38 : Bool) (es39 : LL) (full40 : Bool) (n41 n42 : Int) (N0 : Int→Prop) (k0 : Int→Prop) (k1 : Unit→Prop) : Prop:=bB (decide (n42 < n41)) ((0≤n42∧n42 < (es39.length : Int))∧cS (ext (List.getD es39 (Int.toNat n42) []) 0 15) fun s44 r43=>cI .i64 r43 fun n46 r45=>cI .i64 r45 fun n48 r47=>cI .i64 r47 fun n50 r49=>cI .i64 r49 fun n52 r51=>cI .i64 r51 fun n54 r53=>cI .i64 r53 fun n56 r55=>cI .i64 r55 fun n58 r57=>cI .i64 r57 fun n60 r59=>cI .i64 r59 fun n62 r61=>cI .i64 r61 fun n64 r63=>cI .i64 r63 fun n66 r65=>cS r65 fun s68 r67=>cI .i64 r67 fun n70 r69=>cL 3 r69 fun es72 full73 r71=>nilC r71 <| f16 n46 n48 n50 n52 n54 n56 n58 n60 n62 n64 n66 (fun n74=>bB (n74 != 0) (k0 n74) (N0 (w64 (n42 + 1))))) (k1 ())
def f38_p40 (es37 : LL) (full38 : Bool) (es39 : LL) (full40 : Bool) (n41 : Int) (k0 : Int→Prop) (k1 : Unit→Prop) : Int→Prop:=LoopP fun x N=>f38_p40b0 es37 full38 es39 full40 n41 x (fun n42=>N n42) k0 k1
def f38_d (es1 : LL) (full2 : Bool) (es3 : LL) (full4 : Bool) (k0 : Int→Prop) : Prop:=f38_p4 es1 full2 es3 full4 (es3.length : Int) es3 full4 k0 (fun (_ : Unit)=>f38_p18 es1 full2 es3 full4 k0 (fun (_ : Unit)=>bB (decide ((es1.length : Int) > 64)) (k0 7) (f52 es1 full2 7 (fun n28=>f52_1 es1 full2 4 (fun n29=>f52_2 es1 full2 5 MP.new (fun n30 m31=>f52_3 es1 full2 10 (fun n32=>f52_4 es1 full2 3 es3 full4 (fun n33 es34 full35=>f51 [[pI n28],[pI n29],[pI n30],[pI n32],[pI n33]] false (fun n36=>bB (n36 != 0) (k0 n36) (f38_p40 es1 full2 es1 full2 (es1.length : Int) k0 (fun (_ : Unit)=>f52_5 es1 full2 6 (fun n76=>f52_6 es1 full2 5 (fun n77=>f52_7 es1 full2 11 (fun n78=>f51 [[pI n76],[pI n77],[pI n78]] false k0)))) 0))))))))) 1) 0
structure f38 (es1 : LL) (full2 : Bool) (es3 : LL) (full4 : Bool) (k0 : Int→Prop) : Prop where
  run : f38_d es1 full2 es3 full4 k0
def f38_p4L : Told:=fun s K=>match s with
  | ⟨tm,hp⟩=>getS [.v (.one (.sl 15)),.skip 2,.v (.one (.ptr 0 0 0)),.skip 10,.v (.one (.sl 2)),.v (.one (.int .i64)),.v (.one (.int .i64)),.skip 69] [.box [.sl 2]] tm hp fun (xx : ((LL×Bool)×(Unit×(Unit×(Unit×((LL×Bool)×(Int×(Int×(Unit×Unit))))))))) (yy : (((LL×Bool)×Unit)×Unit))=>f38_p4 xx.1.1 xx.1.2 xx.2.2.2.2.1.1 xx.2.2.2.2.1.2 xx.2.2.2.2.2.1 yy.1.1.1 yy.1.1.2 (fun n0_0=>K .ret ⟨mkS 86 [(4,I n0_0)],[]⟩) (fun (_ : Unit)=>K (.exit 0) ⟨mkS 86 [(0,.w (.one (.p (.sl 15 xx.1.1 xx.1.2)))),(3,.w (.one (.ptr 0 0 0)))],[.box [.p (.sl 2 yy.1.1.1 yy.1.1.2)]]⟩) xx.2.2.2.2.2.2.1
def f38_p18L : Told:=fun s K=>match s with
  | ⟨tm,hp⟩=>getS [.v (.one (.sl 15)),.skip 2,.v (.one (.ptr 0 0 0)),.skip 4,.v (.one (.int .i64)),.skip 77] [.box [.sl 2]] tm hp fun (xx : ((LL×Bool)×(Unit×(Unit×(Unit×(Int×(Unit×Unit))))))) (yy : (((LL×Bool)×Unit)×Unit))=>f38_p18 xx.1.1 xx.1.2 yy.1.1.1 yy.1.1.2 (fun n0_1=>K .ret ⟨mkS 86 [(4,I n0_1)],[]⟩) (fun (_ : Unit)=>K (.exit 2) ⟨mkS 86 [(0,.w (.one (.p (.sl 15 xx.1.1 xx.1.2)))),(3,.w (.one (.ptr 0 0 0)))],[.box [.p (.sl 2 yy.1.1.1 yy.1.1.2)]]⟩) xx.2.2.2.2.1
def f38_p40L : Told:=fun s K=>match s with
  | ⟨tm,hp⟩=>getS [.v (.one (.sl 15)),.skip 64,.v (.one (.sl 15)),.v (.one (.int .i64)),.v (.one (.int .i64)),.skip 18] [] tm hp fun (xx : ((LL×Bool)×(Unit×((LL×Bool)×(Int×(Int×(Unit×Unit))))))) (yy : Unit)=>f38_p40 xx.1.1 xx.1.2 xx.2.2.1.1 xx.2.2.1.2 xx.2.2.2.1 (fun n0_2=>K .ret ⟨mkS 86 [(4,I n0_2)],[]⟩) (fun (_ : Unit)=>K (.exit 4) ⟨mkS 86 [(0,.w (.one (.p (.sl 15 xx.1.1 xx.1.2))))],[]⟩) xx.2.2.2.2.1
def f38_tab : List (Nat×Told):=[(4,f38_p4L),(18,f38_p18L),(40,f38_p40L)]
def f38_call : FuncId→List TV→List Entry→(TV→List Entry→Prop)→Prop:=addCall 52 f52_7_G (addCall 51 f51_G (addCall 16 f16_G (addCall 7 f7_G (noCalls))))
def f38_C : Ctx:=mkC [(4,[(0,[0,3,14,15,16]),(2,[4]),(3,[0,3])]),(18,[(0,[0,3,8]),(2,[4]),(5,[0,3])]),(40,[(0,[0,65,66,67]),(2,[4]),(7,[0])])] [] [] [] [] false 0 true (lookL f38_tab) f38_call
def f38_p4_mk (es5 : LL) (full6 : Bool) (es7 : LL) (full8 : Bool) (n9 : Int) (es11 : LL) (full12 : Bool) (x : Int) : St:=⟨mkS 86 [(0,.w (.one (.p (.sl 15 es5 full6)))),(3,.w (.one (.ptr 0 0 0))),(14,.w (.one (.p (.sl 2 es7 full8)))),(15,I n9),(16,I x)],[.box [.p (.sl 2 es11 full12)]]⟩
theorem f38_p4e0 (es_12 : LL) (full_13 : Bool) (es_14 : LL) (full_15 : Bool) (n_16 n_17 : Int) (es_18 : LL) (full_19 : Bool) (N : St→Prop) (K : TExit→St→Prop) : (f38_p4b0 es_12 full_13 es_14 full_15 n_16 n_17 es_18 full_19 (fun z5=>N (f38_p4_mk es_12 full_13 es_14 full_15 n_16 es_18 full_19 z5)) (fun n0_20=>K .ret ⟨mkS 86 [(4,I n0_20)],[]⟩) (fun (_ : Unit)=>K (.exit 0) ⟨mkS 86 [(0,.w (.one (.p (.sl 15 es_12 full_13)))),(3,.w (.one (.ptr 0 0 0)))],[.box [.p (.sl 2 es_18 full_19)]]⟩)) = execT f38_C (bd Tryd.f38 0) (f38_p4_mk es_12 full_13 es_14 full_15 n_16 es_18 full_19 n_17) (loopK N (normK f38_C 4) fun e s=>K e (normOut f38_C 4 e s)):=by kernel_rfl
def f38_p18_mk (es20 : LL) (full21 : Bool) (es23 : LL) (full24 : Bool) (x : Int) : St:=⟨mkS 86 [(0,.w (.one (.p (.sl 15 es20 full21)))),(3,.w (.one (.ptr 0 0 0))),(8,I x)],[.box [.p (.sl 2 es23 full24)]]⟩
theorem f38_p18e0 (es_26 : LL) (full_27 : Bool) (n_28 : Int) (es_29 : LL) (full_30 : Bool) (N : St→Prop) (K : TExit→St→Prop) : (f38_p18b0 es_26 full_27 n_28 es_29 full_30 (fun z2=>N (f38_p18_mk es_26 full_27 es_29 full_30 z2)) (fun n0_31=>K .ret ⟨mkS 86 [(4,I n0_31)],[]⟩) (fun (_ : Unit)=>K (.exit 2) ⟨mkS 86 [(0,.w (.one (.p (.sl 15 es_26 full_27)))),(3,.w (.one (.ptr 0 0 0)))],[.box [.p (.sl 2 es_29 full_30)]]⟩)) = execT f38_C (bd Tryd.f38 1) (f38_p18_mk es_26 full_27 es_29 full_30 n_28) (loopK N (normK f38_C 18) fun e s=>K e (normOut f38_C 18 e s)):=by kernel_rfl
def f38_p40_mk (es37 : LL) (full38 : Bool) (es39 : LL) (full40 : Bool) (n41 x : Int) : St:=⟨mkS 86 [(0,.w (.one (.p (.sl 15 es37 full38)))),(65,.w (.one (.p (.sl 15 es39 full40)))),(66,I n41),(67,I x)],[]⟩
theorem f38_p40e0 (es_38 : LL) (full_39 : Bool) (es_40 : LL) (full_41 : Bool) (n_42 n_43 : Int) (N : St→Prop) (K : TExit→St→Prop) : (f38_p40b0 es_38 full_39 es_40 full_41 n_42 n_43 (fun z5=>N (f38_p40_mk es_38 full_39 es_40 full_41 n_42 z5)) (fun n0_44=>K .ret ⟨mkS 86 [(4,I n0_44)],[]⟩) (fun (_ : Unit)=>K (.exit 4) ⟨mkS 86 [(0,.w (.one (.p (.sl 15 es_38 full_39))))],[]⟩)) = execT f38_C (bd Tryd.f38 2) (f38_p40_mk es_38 full_39 es_40 full_41 n_42 n_43) (loopK N (normK f38_C 40) fun e s=>K e (normOut f38_C 40 e s)):=by kernel_rfl
set_option maxHeartbeats 4000000 in
theorem f38_p4_ok : LoopOk f38_C (bd Tryd.f38 0):=by
  refine LoopOk.of f38_p4L (by kernel_rfl) fun σ K h=>?_
  have hk : loopKey (bd Tryd.f38 0) = 4:=by kernel_rfl
  rw [hk] at h ⊢
  generalize hs : normK f38_C 4 σ = s at h
  obtain ⟨tm,hp⟩:=s
  unfold f38_p4L at h
  dsimp only at h
  obtain ⟨xx,yy,rfl,rfl,h⟩:=getS_elim h
  refine iter_of (f38_p4_mk xx.1.1 xx.1.2 xx.2.2.2.2.1.1 xx.2.2.2.2.1.2 xx.2.2.2.2.2.1 yy.1.1.1 yy.1.1.2) (fun x N h=>?_) rounds _ σ (hs.trans (by kernel_rfl)) (LoopP.run h)
  rw [← f38_p4e0 xx.1.1 xx.1.2 xx.2.2.2.2.1.1 xx.2.2.2.2.1.2 xx.2.2.2.2.2.1 x yy.1.1.1 yy.1.1.2 N K]
  exact h
set_option maxHeartbeats 4000000 in
theorem f38_p18_ok : LoopOk f38_C (bd Tryd.f38 1):=by
  refine LoopOk.of f38_p18L (by kernel_rfl) fun σ K h=>?_
  have hk : loopKey (bd Tryd.f38 1) = 18:=by kernel_rfl
  rw [hk] at h ⊢
  generalize hs : normK f38_C 18 σ = s at h
  obtain ⟨tm,hp⟩:=s
  unfold f38_p18L at h
  dsimp only at h
  obtain ⟨xx,yy,rfl,rfl,h⟩:=getS_elim h
  refine iter_of (f38_p18_mk xx.1.1 xx.1.2 yy.1.1.1 yy.1.1.2) (fun x N h=>?_) rounds _ σ (hs.trans (by kernel_rfl)) (LoopP.run h)
  rw [← f38_p18e0 xx.1.1 xx.1.2 x yy.1.1.1 yy.1.1.2 N K]
  exact h
set_option maxHeartbeats 4000000 in
theorem f38_p40_ok : LoopOk f38_C (bd Tryd.f38 2):=by
  refine LoopOk.of f38_p40L (by kernel_rfl) fun σ K h=>?_
  have hk : loopKey (bd Tryd.f38 2) = 40:=by kernel_rfl
  rw [hk] at h ⊢
  generalize hs : normK f38_C 40 σ = s at h
  obtain ⟨tm,hp⟩:=s
  unfold f38_p40L at h
  dsimp only at h
  obtain ⟨xx,yy,rfl,rfl,h⟩:=getS_elim h
  refine iter_of (f38_p40_mk xx.1.1 xx.1.2 xx.2.2.1.1 xx.2.2.1.2 xx.2.2.2.1) (fun x N h=>?_) rounds _ σ (hs.trans (by kernel_rfl)) (LoopP.run h)
  rw [← f38_p40e0 xx.1.1 xx.1.2 xx.2.2.1.1 xx.2.2.1.2 xx.2.2.2.1 x N K]
  exact h
def f38_G0 : List TV→List Entry→(TV→List Entry→Prop)→Prop:=fun tm hp K=>getS [.v (.one (.sl 15)),.v (.one (.sl 2))] [] tm hp fun (xx : ((LL×Bool)×((LL×Bool)×Unit))) (yy : Unit)=>f38 xx.1.1 xx.1.2 xx.2.1.1 xx.2.1.2 (fun n0_3=>K (I n0_3) [])
theorem f38_eq (es_45 : LL) (full_46 : Bool) (es_47 : LL) (full_48 : Bool) (K : TV→List Entry→Prop) : (f38_d es_45 full_46 es_47 full_48 (fun n0_3=>K (I n0_3) [])) = funcT f38_C Tryd.f38 [.w (.one (.p (.sl 15 es_45 full_46))),.w (.one (.p (.sl 2 es_47 full_48)))] [] K:=by kernel_rfl
set_option maxHeartbeats 4000000 in
theorem f38_ok0 : FnOk Tryd.prog glob 38 f38_G0:=by
  refine FnOk.of_text (C:=f38_C) tab_ok.ok (Known.add f52_7_G_ok (Known.add f51_G_ok (Known.add f16_G_ok (Known.add f7_G_ok (Known.none))))) follows_ok (fn:=Tryd.f38) (by kernel_rfl) (by kernel_rfl) (by kernel_rfl) (fun c hc=>?_) fun tm hp K h=>?_
  · have e : c = bodyOf Tryd.f38:=Option.some.inj (hc.symm.trans (by kernel_rfl))
    subst e
    exact ⟨LoopsOk.of [bd Tryd.f38 0,bd Tryd.f38 1,bd Tryd.f38 2] (by kernel_rfl) ⟨f38_p4_ok,f38_p18_ok,f38_p40_ok,trivial⟩,TailsOk.of (tab:=f38_tab) rfl [] (by kernel_rfl) trivial⟩
  · unfold f38_G0 at h
    obtain ⟨xx,yy,rfl,rfl,h⟩:=getS_elim h
    have e:=(f38_eq xx.1.1 xx.1.2 xx.2.1.1 xx.2.1.2 K).trans (show _ = funcT f38_C Tryd.f38 (mkR _ xx) (mkE _ yy) K by kernel_rfl)
    rw [← e]
    exact h.run
abbrev f38_G:=f38_G0
theorem f38_G_ok : FnOk Tryd.prog glob 38 f38_G:=f38_ok0
def f19_d (n1 : Int) (k0 : Bool→Prop) : Prop:=bB (decide ((0 : Int)≤n1)) (k0 (decide (n1≤73048))) (k0 false)
structure f19 (n1 : Int) (k0 : Bool→Prop) : Prop where
  run : f19_d n1 k0
def f19_tab : List (Nat×Told):=[]
def f19_call : FuncId→List TV→List Entry→(TV→List Entry→Prop)→Prop:=noCalls
def f19_C : Ctx:=mkC [] [] [] [] [] false 0 true (lookL f19_tab) f19_call
def f19_G0 : List TV→List Entry→(TV→List Entry→Prop)→Prop:=fun tm hp K=>getS [.v (.one (.int .i64))] [] tm hp fun (xx : (Int×Unit)) (yy : Unit)=>f19 xx.1 (fun b0_0=>K (B b0_0) [])
theorem f19_eq (n_1 : Int) (K : TV→List Entry→Prop) : (f19_d n_1 (fun b0_0=>K (B b0_0) [])) = funcT f19_C Tryd.f19 [I n_1] [] K:=by kernel_rfl
set_option maxHeartbeats 4000000 in
theorem f19_ok0 : FnOk Tryd.prog glob 19 f19_G0:=by
  refine FnOk.of_text (C:=f19_C) tab_ok.ok (Known.none) follows_ok (fn:=Tryd.f19) (by kernel_rfl) (by kernel_rfl) (by kernel_rfl) (fun c hc=>?_) fun tm hp K h=>?_
  · have e : c = bodyOf Tryd.f19:=Option.some.inj (hc.symm.trans (by kernel_rfl))
    subst e
    exact ⟨LoopsOk.of [] (by kernel_rfl) trivial,TailsOk.of (tab:=f19_tab) rfl [] (by kernel_rfl) trivial⟩
  · unfold f19_G0 at h
    obtain ⟨xx,yy,rfl,rfl,h⟩:=getS_elim h
    have e:=(f19_eq xx.1 K).trans (show _ = funcT f19_C Tryd.f19 (mkR _ xx) (mkE _ yy) K by kernel_rfl)
    rw [← e]
    exact h.run
abbrev f19_G:=f19_G0
theorem f19_G_ok : FnOk Tryd.prog glob 19 f19_G:=f19_ok0
def f36_d (n1 n2 : Int) (n3 n4 : Int) (n5 n6 : Int) (n7 n8 : Int) (n9 n10 : Int) (n11 n12 : Int) (k0 : Bool→Prop) : Prop:=f16 n1 n2 n3 n4 n5 n6 n7 n8 n9 n10 n11 (fun n13=>bB (n13 == 0) (f49 n12 (fun b14=>bB b14 (f50 n1 n2 n3 n4 n5 n6 n7 n8 n9 n10 n11 (fun n15 n16=>f79 n12 n15 n16 (fun b17 n18 n19=>k0 b17)) (fun n20 n21 n22 n23 n24 n25 n26 n27 n28 n29 n30=>f80 n12 n20 n21 n22 n23 n24 n25 n26 n27 n28 n29 n30 (fun b31 n32 n33 n34 n35 n36 n37 n38 n39 n40 n41 n42=>k0 b31))) (k0 false))) (k0 false))
structure f36 (n1 n2 : Int) (n3 n4 : Int) (n5 n6 : Int) (n7 n8 : Int) (n9 n10 : Int) (n11 n12 : Int) (k0 : Bool→Prop) : Prop where
  run : f36_d n1 n2 n3 n4 n5 n6 n7 n8 n9 n10 n11 n12 k0
def f36_tab : List (Nat×Told):=[]
def f36_call : FuncId→List TV→List Entry→(TV→List Entry→Prop)→Prop:=addCall 80 f80_G (addCall 79 f79_G (addCall 50 f50_G (addCall 49 f49_G (addCall 16 f16_G (noCalls)))))
def f36_C : Ctx:=mkC [] [] [] [] [] false 0 true (lookL f36_tab) f36_call
def f36_G0 : List TV→List Entry→(TV→List Entry→Prop)→Prop:=fun tm hp K=>getS [.v (.pagg [.int .i64,.int .i64,.int .i64,.int .i64,.int .i64,.int .i64,.int .i64,.int .i64,.int .i64,.int .i64,.int .i64]),.v (.one (.int .i64))] [] tm hp fun (xx : ((Int×(Int×(Int×(Int×(Int×(Int×(Int×(Int×(Int×(Int×(Int×Unit)))))))))))×(Int×Unit))) (yy : Unit)=>f36 xx.1.1 xx.1.2.1 xx.1.2.2.1 xx.1.2.2.2.1 xx.1.2.2.2.2.1 xx.1.2.2.2.2.2.1 xx.1.2.2.2.2.2.2.1 xx.1.2.2.2.2.2.2.2.1 xx.1.2.2.2.2.2.2.2.2.1 xx.1.2.2.2.2.2.2.2.2.2.1 xx.1.2.2.2.2.2.2.2.2.2.2.1 xx.2.1 (fun b0_0=>K (B b0_0) [])
theorem f36_eq (n_1 n_2 : Int) (n_3 n_4 : Int) (n_5 n_6 : Int) (n_7 n_8 : Int) (n_9 n_10 : Int) (n_11 n_12 : Int) (K : TV→List Entry→Prop) : (f36_d n_1 n_2 n_3 n_4 n_5 n_6 n_7 n_8 n_9 n_10 n_11 n_12 (fun b0_0=>K (B b0_0) [])) = funcT f36_C Tryd.f36 [.w (.pagg [pI n_1,pI n_2,pI n_3,pI n_4,pI n_5,pI n_6,pI n_7,pI n_8,pI n_9,pI n_10,pI n_11]),I n_12] [] K:=by kernel_rfl
set_option maxHeartbeats 4000000 in
theorem f36_ok0 : FnOk Tryd.prog glob 36 f36_G0:=by
  refine FnOk.of_text (C:=f36_C) tab_ok.ok (Known.add f80_G_ok (Known.add f79_G_ok (Known.add f50_G_ok (Known.add f49_G_ok (Known.add f16_G_ok (Known.none)))))) follows_ok (fn:=Tryd.f36) (by kernel_rfl) (by kernel_rfl) (by kernel_rfl) (fun c hc=>?_) fun tm hp K h=>?_
  · have e : c = bodyOf Tryd.f36:=Option.some.inj (hc.symm.trans (by kernel_rfl))
    subst e
    exact ⟨LoopsOk.of [] (by kernel_rfl) trivial,TailsOk.of (tab:=f36_tab) rfl [] (by kernel_rfl) trivial⟩
  · unfold f36_G0 at h
    obtain ⟨xx,yy,rfl,rfl,h⟩:=getS_elim h
    have e:=(f36_eq xx.1.1 xx.1.2.1 xx.1.2.2.1 xx.1.2.2.2.1 xx.1.2.2.2.2.1 xx.1.2.2.2.2.2.1 xx.1.2.2.2.2.2.2.1 xx.1.2.2.2.2.2.2.2.1 xx.1.2.2.2.2.2.2.2.2.1 xx.1.2.2.2.2.2.2.2.2.2.1 xx.1.2.2.2.2.2.2.2.2.2.2.1 xx.2.1 K).trans (show _ = funcT f36_C Tryd.f36 (mkR _ xx) (mkE _ yy) K by kernel_rfl)
    rw [← e]
    exact h.run
abbrev f36_G:=f36_G0
theorem f36_G_ok : FnOk Tryd.prog glob 36 f36_G:=f36_ok0
def f35_d (n1 n2 : Int) (n3 n4 : Int) (n5 n6 : Int) (n7 n8 : Int) (n9 n10 : Int) (n11 n12 : Int) (k0 : Bool→Int→Prop) : Prop:=f36 n1 n2 n3 n4 n5 n6 n7 n8 n9 n10 n11 n12 (fun b13=>k0 b13 n12)
structure f35 (n1 n2 : Int) (n3 n4 : Int) (n5 n6 : Int) (n7 n8 : Int) (n9 n10 : Int) (n11 n12 : Int) (k0 : Bool→Int→Prop) : Prop where
  run : f35_d n1 n2 n3 n4 n5 n6 n7 n8 n9 n10 n11 n12 k0
def f35_tab : List (Nat×Told):=[]
def f35_call : FuncId→List TV→List Entry→(TV→List Entry→Prop)→Prop:=addCall 36 f36_G (noCalls)
def f35_C : Ctx:=mkC [] [] [] [] [] false 1 true (lookL f35_tab) f35_call
def f35_G0 : List TV→List Entry→(TV→List Entry→Prop)→Prop:=fun tm hp K=>getS [.v (.pagg [.int .i64,.int .i64,.int .i64,.int .i64,.int .i64,.int .i64,.int .i64,.int .i64,.int .i64,.int .i64,.int .i64]),.v (.one (.ptr 0 0 0))] [.box [.int .i64]] tm hp fun (xx : ((Int×(Int×(Int×(Int×(Int×(Int×(Int×(Int×(Int×(Int×(Int×Unit)))))))))))×(Unit×Unit))) (yy : ((Int×Unit)×Unit))=>f35 xx.1.1 xx.1.2.1 xx.1.2.2.1 xx.1.2.2.2.1 xx.1.2.2.2.2.1 xx.1.2.2.2.2.2.1 xx.1.2.2.2.2.2.2.1 xx.1.2.2.2.2.2.2.2.1 xx.1.2.2.2.2.2.2.2.2.1 xx.1.2.2.2.2.2.2.2.2.2.1 xx.1.2.2.2.2.2.2.2.2.2.2.1 yy.1.1 (fun b0_0 n0_1=>K (B b0_0) [.box [.p (pI n0_1)]])
theorem f35_eq (n_2 n_3 : Int) (n_4 n_5 : Int) (n_6 n_7 : Int) (n_8 n_9 : Int) (n_10 n_11 : Int) (n_12 n_13 : Int) (K : TV→List Entry→Prop) : (f35_d n_2 n_3 n_4 n_5 n_6 n_7 n_8 n_9 n_10 n_11 n_12 n_13 (fun b0_0 n0_1=>K (B b0_0) [.box [.p (pI n0_1)]])) = funcT f35_C Tryd.f35 [.w (.pagg [pI n_2,pI n_3,pI n_4,pI n_5,pI n_6,pI n_7,pI n_8,pI n_9,pI n_10,pI n_11,pI n_12]),.w (.one (.ptr 0 0 0))] [.box [.p (pI n_13)]] K:=by kernel_rfl
set_option maxHeartbeats 4000000 in
theorem f35_ok0 : FnOk Tryd.prog glob 35 f35_G0:=by
  refine FnOk.of_text (C:=f35_C) tab_ok.ok (Known.add f36_G_ok (Known.none)) follows_ok (fn:=Tryd.f35) (by kernel_rfl) (by kernel_rfl) (by kernel_rfl) (fun c hc=>?_) fun tm hp K h=>?_
  · have e : c = bodyOf Tryd.f35:=Option.some.inj (hc.symm.trans (by kernel_rfl))
    subst e
    exact ⟨LoopsOk.of [] (by kernel_rfl) trivial,TailsOk.of (tab:=f35_tab) rfl [] (by kernel_rfl) trivial⟩
  · unfold f35_G0 at h
    obtain ⟨xx,yy,rfl,rfl,h⟩:=getS_elim h
    have e:=(f35_eq xx.1.1 xx.1.2.1 xx.1.2.2.1 xx.1.2.2.2.1 xx.1.2.2.2.2.1 xx.1.2.2.2.2.2.1 xx.1.2.2.2.2.2.2.1 xx.1.2.2.2.2.2.2.2.1 xx.1.2.2.2.2.2.2.2.2.1 xx.1.2.2.2.2.2.2.2.2.2.1 xx.1.2.2.2.2.2.2.2.2.2.2.1 yy.1.1 K).trans (show _ = funcT f35_C Tryd.f35 (mkR _ xx) (mkE _ yy) K by kernel_rfl)
    rw [← e]
    exact h.run
abbrev f35_G:=f35_G0
theorem f35_G_ok : FnOk Tryd.prog glob 35 f35_G:=f35_ok0
def f21_d (n1 n2 : Int) (n3 n4 : Int) (n5 n6 : Int) (n7 n8 : Int) (n9 n10 : Int) (n11 n12 : Int) (k0 : Int→Int→Prop) : Prop:=f37 n1 n2 n3 n4 n5 n6 n7 n8 n9 n10 n11 n12 1 (fun n13 n14=>k0 n13 n14)
structure f21 (n1 n2 : Int) (n3 n4 : Int) (n5 n6 : Int) (n7 n8 : Int) (n9 n10 : Int) (n11 n12 : Int) (k0 : Int→Int→Prop) : Prop where
  run : f21_d n1 n2 n3 n4 n5 n6 n7 n8 n9 n10 n11 n12 k0
def f21_tab : List (Nat×Told):=[]
def f21_call : FuncId→List TV→List Entry→(TV→List Entry→Prop)→Prop:=addCall 37 f37_G (noCalls)
def f21_C : Ctx:=mkC [] [] [] [] [] false 0 true (lookL f21_tab) f21_call
def f21_G0 : List TV→List Entry→(TV→List Entry→Prop)→Prop:=fun tm hp K=>getS [.v (.pagg [.int .i64,.int .i64,.int .i64,.int .i64,.int .i64,.int .i64,.int .i64,.int .i64,.int .i64,.int .i64,.int .i64]),.v (.one (.int .i64))] [] tm hp fun (xx : ((Int×(Int×(Int×(Int×(Int×(Int×(Int×(Int×(Int×(Int×(Int×Unit)))))))))))×(Int×Unit))) (yy : Unit)=>f21 xx.1.1 xx.1.2.1 xx.1.2.2.1 xx.1.2.2.2.1 xx.1.2.2.2.2.1 xx.1.2.2.2.2.2.1 xx.1.2.2.2.2.2.2.1 xx.1.2.2.2.2.2.2.2.1 xx.1.2.2.2.2.2.2.2.2.1 xx.1.2.2.2.2.2.2.2.2.2.1 xx.1.2.2.2.2.2.2.2.2.2.2.1 xx.2.1 (fun n0_0 n0_1=>K (.tup [.one (.p (pI n0_0)),.one (.p (pI n0_1))]) [])
theorem f21_eq (n_2 n_3 : Int) (n_4 n_5 : Int) (n_6 n_7 : Int) (n_8 n_9 : Int) (n_10 n_11 : Int) (n_12 n_13 : Int) (K : TV→List Entry→Prop) : (f21_d n_2 n_3 n_4 n_5 n_6 n_7 n_8 n_9 n_10 n_11 n_12 n_13 (fun n0_0 n0_1=>K (.tup [.one (.p (pI n0_0)),.one (.p (pI n0_1))]) [])) = funcT f21_C Tryd.f21 [.w (.pagg [pI n_2,pI n_3,pI n_4,pI n_5,pI n_6,pI n_7,pI n_8,pI n_9,pI n_10,pI n_11,pI n_12]),I n_13] [] K:=by kernel_rfl
set_option maxHeartbeats 4000000 in
theorem f21_ok0 : FnOk Tryd.prog glob 21 f21_G0:=by
  refine FnOk.of_text (C:=f21_C) tab_ok.ok (Known.add f37_G_ok (Known.none)) follows_ok (fn:=Tryd.f21) (by kernel_rfl) (by kernel_rfl) (by kernel_rfl) (fun c hc=>?_) fun tm hp K h=>?_
  · have e : c = bodyOf Tryd.f21:=Option.some.inj (hc.symm.trans (by kernel_rfl))
    subst e
    exact ⟨LoopsOk.of [] (by kernel_rfl) trivial,TailsOk.of (tab:=f21_tab) rfl [] (by kernel_rfl) trivial⟩
  · unfold f21_G0 at h
    obtain ⟨xx,yy,rfl,rfl,h⟩:=getS_elim h
    have e:=(f21_eq xx.1.1 xx.1.2.1 xx.1.2.2.1 xx.1.2.2.2.1 xx.1.2.2.2.2.1 xx.1.2.2.2.2.2.1 xx.1.2.2.2.2.2.2.1 xx.1.2.2.2.2.2.2.2.1 xx.1.2.2.2.2.2.2.2.2.1 xx.1.2.2.2.2.2.2.2.2.2.1 xx.1.2.2.2.2.2.2.2.2.2.2.1 xx.2.1 K).trans (show _ = funcT f21_C Tryd.f21 (mkR _ xx) (mkE _ yy) K by kernel_rfl)
    rw [← e]
    exact h.run
abbrev f21_G:=f21_G0
theorem f21_G_ok : FnOk Tryd.prog glob 21 f21_G:=f21_ok0
def f10_p16b0 (n7 n8 : Int) (es9 : LL) (full10 : Bool) (n11 n12 : Int) (N0 : Int→Int→Prop) (k0 : Int→Prop) : Prop:=bB (decide (n12 < n11)) ((0≤n12∧n12 < (es9.length : Int))∧cI .i64 (ext (List.getD es9 (Int.toNat n12) []) 0 11) fun n14 r13=>cI .i64 r13 fun n16 r15=>cI .i64 r15 fun n18 r17=>cI .i64 r17 fun n20 r19=>cI .i64 r19 fun n22 r21=>cI .i64 r21 fun n24 r23=>cI .i64 r23 fun n26 r25=>cI .i64 r25 fun n28 r27=>cI .i64 r27 fun n30 r29=>cI .i64 r29 fun n32 r31=>cI .i64 r31 fun n34 r33=>nilC r33 <| f21 n14 n16 n18 n20 n22 n24 n26 n28 n30 n32 n34 n7 (fun n35 n36=>bB (n36 == 0) (bB (decide (n8 < 0)) (N0 n35 (w64 (n12 + 1))) (bB (decide (n35 < n8)) (N0 n35 (w64 (n12 + 1))) (N0 n8 (w64 (n12 + 1))))) (N0 n8 (w64 (n12 + 1))))) (k0 n8)
def f10_p16 (n7 : Int) (es9 : LL) (full10 : Bool) (n11 : Int) (k0 : Int→Prop) : Int×Int→Prop:=LoopP fun x N=>f10_p16b0 n7 x.1 es9 full10 n11 x.2 (fun n8 n12=>N (n8,n12)) k0
def f10_d (s1 : ByteArray) (es2 : LL) (full3 : Bool) (n4 : Int) (k0 : Int→Int→Prop) : Prop:=f7 s1 es2 full3 (fun n5=>bB (n5 != 0) (k0 0 n5) (f19 n4 (fun b6=>bB (!b6) (k0 0 1) (f10_p16 n4 es2 full3 (es2.length : Int) (fun n37=>bB (decide (n37 < 0)) (k0 0 9) (k0 n37 0)) ((-1),0)))))
structure f10 (s1 : ByteArray) (es2 : LL) (full3 : Bool) (n4 : Int) (k0 : Int→Int→Prop) : Prop where
  run : f10_d s1 es2 full3 n4 k0
def f10_p16L : Told:=fun s K=>match s with
  | ⟨tm,hp⟩=>getS [.skip 1,.v (.one (.int .i64)),.skip 5,.v (.one (.int .i64)),.skip 13,.v (.one (.sl 11)),.v (.one (.int .i64)),.v (.one (.int .i64)),.skip 25] [] tm hp fun (xx : (Unit×(Int×(Unit×(Int×(Unit×((LL×Bool)×(Int×(Int×(Unit×Unit)))))))))) (yy : Unit)=>f10_p16 xx.2.1 xx.2.2.2.2.2.1.1 xx.2.2.2.2.2.1.2 xx.2.2.2.2.2.2.1 (fun n0_0=>K (.exit 0) ⟨mkS 49 [(7,I n0_0)],[]⟩) (xx.2.2.2.1,xx.2.2.2.2.2.2.2.1)
def f10_tab : List (Nat×Told):=[(16,f10_p16L)]
def f10_call : FuncId→List TV→List Entry→(TV→List Entry→Prop)→Prop:=addCall 21 f21_G (addCall 19 f19_G (addCall 7 f7_G (noCalls)))
def f10_C : Ctx:=mkC [(16,[(0,[1,7,21,22,23]),(2,[4,5]),(3,[7])])] [] [] [] [] false 0 true (lookL f10_tab) f10_call
def f10_p16_mk (n7 : Int) (es9 : LL) (full10 : Bool) (n11 : Int) (x : Int×Int) : St:=⟨mkS 49 [(1,I n7),(7,I x.1),(21,.w (.one (.p (.sl 11 es9 full10)))),(22,I n11),(23,I x.2)],[]⟩
theorem f10_p16e0 (n_9 n_10 : Int) (es_11 : LL) (full_12 : Bool) (n_13 n_14 : Int) (N : St→Prop) (K : TExit→St→Prop) : (f10_p16b0 n_9 n_10 es_11 full_12 n_13 n_14 (fun z1 z5=>N (f10_p16_mk n_9 es_11 full_12 n_13 (z1,z5))) (fun n0_15=>K (.exit 0) ⟨mkS 49 [(7,I n0_15)],[]⟩)) = execT f10_C (bd Tryd.f10 0) (f10_p16_mk n_9 es_11 full_12 n_13 (n_10,n_14)) (loopK N (normK f10_C 16) fun e s=>K e (normOut f10_C 16 e s)):=by kernel_rfl
set_option maxHeartbeats 4000000 in
theorem f10_p16_ok : LoopOk f10_C (bd Tryd.f10 0):=by
  refine LoopOk.of f10_p16L (by kernel_rfl) fun σ K h=>?_
  have hk : loopKey (bd Tryd.f10 0) = 16:=by kernel_rfl
  rw [hk] at h ⊢
  generalize hs : normK f10_C 16 σ = s at h
  obtain ⟨tm,hp⟩:=s
  unfold f10_p16L at h
  dsimp only at h
  obtain ⟨xx,yy,rfl,rfl,h⟩:=getS_elim h
  refine iter_of (f10_p16_mk xx.2.1 xx.2.2.2.2.2.1.1 xx.2.2.2.2.2.1.2 xx.2.2.2.2.2.2.1) (fun x N h=>?_) rounds _ σ (hs.trans (by kernel_rfl)) (LoopP.run h)
  obtain ⟨y0,y1⟩:=x
  rw [← f10_p16e0 xx.2.1 y0 xx.2.2.2.2.2.1.1 xx.2.2.2.2.2.1.2 xx.2.2.2.2.2.2.1 y1 N K]
  exact h
def f10_G0 : List TV→List Entry→(TV→List Entry→Prop)→Prop:=fun tm hp K=>getS [.v (.pagg [.str,.sl 11]),.v (.one (.int .i64))] [] tm hp fun (xx : ((ByteArray×((LL×Bool)×Unit))×(Int×Unit))) (yy : Unit)=>f10 xx.1.1 xx.1.2.1.1 xx.1.2.1.2 xx.2.1 (fun n0_1 n0_2=>K (.tup [.one (.p (pI n0_1)),.one (.p (pI n0_2))]) [])
theorem f10_eq (s_16 : ByteArray) (es_17 : LL) (full_18 : Bool) (n_19 : Int) (K : TV→List Entry→Prop) : (f10_d s_16 es_17 full_18 n_19 (fun n0_1 n0_2=>K (.tup [.one (.p (pI n0_1)),.one (.p (pI n0_2))]) [])) = funcT f10_C Tryd.f10 [.w (.pagg [pS s_16,.sl 11 es_17 full_18]),I n_19] [] K:=by kernel_rfl
set_option maxHeartbeats 4000000 in
theorem f10_ok0 : FnOk Tryd.prog glob 10 f10_G0:=by
  refine FnOk.of_text (C:=f10_C) tab_ok.ok (Known.add f21_G_ok (Known.add f19_G_ok (Known.add f7_G_ok (Known.none)))) follows_ok (fn:=Tryd.f10) (by kernel_rfl) (by kernel_rfl) (by kernel_rfl) (fun c hc=>?_) fun tm hp K h=>?_
  · have e : c = bodyOf Tryd.f10:=Option.some.inj (hc.symm.trans (by kernel_rfl))
    subst e
    exact ⟨LoopsOk.of [bd Tryd.f10 0] (by kernel_rfl) ⟨f10_p16_ok,trivial⟩,TailsOk.of (tab:=f10_tab) rfl [] (by kernel_rfl) trivial⟩
  · unfold f10_G0 at h
    obtain ⟨xx,yy,rfl,rfl,h⟩:=getS_elim h
    have e:=(f10_eq xx.1.1 xx.1.2.1.1 xx.1.2.1.2 xx.2.1 K).trans (show _ = funcT f10_C Tryd.f10 (mkR _ xx) (mkE _ yy) K by kernel_rfl)
    rw [← e]
    exact h.run
abbrev f10_G:=f10_G0
theorem f10_G_ok : FnOk Tryd.prog glob 10 f10_G:=f10_ok0
def f22_d (es1 : LL) (full2 : Bool) (es3 : LL) (full4 : Bool) (n5 : Int) (k0 : Int→Prop) : Prop:=f38 es1 full2 es3 full4 (fun n6=>bB (n6 != 0) (k0 n6) (f19 n5 (fun b7=>bB (!b7) (k0 1) (k0 0))))
structure f22 (es1 : LL) (full2 : Bool) (es3 : LL) (full4 : Bool) (n5 : Int) (k0 : Int→Prop) : Prop where
  run : f22_d es1 full2 es3 full4 n5 k0
def f22_tab : List (Nat×Told):=[]
def f22_call : FuncId→List TV→List Entry→(TV→List Entry→Prop)→Prop:=addCall 38 f38_G (addCall 19 f19_G (noCalls))
def f22_C : Ctx:=mkC [] [] [] [] [] false 0 true (lookL f22_tab) f22_call
def f22_G0 : List TV→List Entry→(TV→List Entry→Prop)→Prop:=fun tm hp K=>getS [.v (.one (.sl 15)),.v (.one (.sl 2)),.v (.one (.int .i64))] [] tm hp fun (xx : ((LL×Bool)×((LL×Bool)×(Int×Unit)))) (yy : Unit)=>f22 xx.1.1 xx.1.2 xx.2.1.1 xx.2.1.2 xx.2.2.1 (fun n0_0=>K (I n0_0) [])
theorem f22_eq (es_1 : LL) (full_2 : Bool) (es_3 : LL) (full_4 : Bool) (n_5 : Int) (K : TV→List Entry→Prop) : (f22_d es_1 full_2 es_3 full_4 n_5 (fun n0_0=>K (I n0_0) [])) = funcT f22_C Tryd.f22 [.w (.one (.p (.sl 15 es_1 full_2))),.w (.one (.p (.sl 2 es_3 full_4))),I n_5] [] K:=by kernel_rfl
set_option maxHeartbeats 4000000 in
theorem f22_ok0 : FnOk Tryd.prog glob 22 f22_G0:=by
  refine FnOk.of_text (C:=f22_C) tab_ok.ok (Known.add f38_G_ok (Known.add f19_G_ok (Known.none))) follows_ok (fn:=Tryd.f22) (by kernel_rfl) (by kernel_rfl) (by kernel_rfl) (fun c hc=>?_) fun tm hp K h=>?_
  · have e : c = bodyOf Tryd.f22:=Option.some.inj (hc.symm.trans (by kernel_rfl))
    subst e
    exact ⟨LoopsOk.of [] (by kernel_rfl) trivial,TailsOk.of (tab:=f22_tab) rfl [] (by kernel_rfl) trivial⟩
  · unfold f22_G0 at h
    obtain ⟨xx,yy,rfl,rfl,h⟩:=getS_elim h
    have e:=(f22_eq xx.1.1 xx.1.2 xx.2.1.1 xx.2.1.2 xx.2.2.1 K).trans (show _ = funcT f22_C Tryd.f22 (mkR _ xx) (mkE _ yy) K by kernel_rfl)
    rw [← e]
    exact h.run
abbrev f22_G:=f22_G0
theorem f22_G_ok : FnOk Tryd.prog glob 22 f22_G:=f22_ok0
def f48_p4b0 (es4 : LL) (full5 : Bool) (n6 n7 n8 : Int) (N0 : Int→Int→Prop) (k0 : Int→Int→Prop) (k1 : Int→Prop) : Prop:=bB (decide (n7 < n6)) ((0≤n7∧n7 < (es4.length : Int))∧cI .i64 (ext (List.getD es4 (Int.toNat n7) []) 0 11) fun n10 r9=>cI .i64 r9 fun n12 r11=>cI .i64 r11 fun n14 r13=>cI .i64 r13 fun n16 r15=>cI .i64 r15 fun n18 r17=>cI .i64 r17 fun n20 r19=>cI .i64 r19 fun n22 r21=>cI .i64 r21 fun n24 r23=>cI .i64 r23 fun n26 r25=>cI .i64 r25 fun n28 r27=>cI .i64 r27 fun n30 r29=>nilC r29 <| f35 n10 n12 n14 n16 n18 n20 n22 n24 n26 n28 n30 n8 (fun b31 n32=>bB b31 (k0 n7 n32) (N0 (w64 (n7 + 1)) n32))) (k1 n8)
def f48_p4 (es4 : LL) (full5 : Bool) (n6 : Int) (k0 : Int→Int→Prop) (k1 : Int→Prop) : Int×Int→Prop:=LoopP fun x N=>f48_p4b0 es4 full5 n6 x.1 x.2 (fun n7 n8=>N (n7,n8)) k0 k1
def f48_d (es1 : LL) (full2 : Bool) (n3 : Int) (k0 : Int→Int→Prop) : Prop:=f48_p4 es1 full2 (es1.length : Int) (fun n33 n34=>k0 n33 n34) (fun n35=>k0 (-1) n35) (0,n3)
structure f48 (es1 : LL) (full2 : Bool) (n3 : Int) (k0 : Int→Int→Prop) : Prop where
  run : f48_d es1 full2 n3 k0
def f48_p4L : Told:=fun s K=>match s with
  | ⟨tm,hp⟩=>getS [.v (.one (.sl 11)),.v (.clo 35 [] [.ptr 0 0 0]),.skip 5,.v (.one (.int .i64)),.v (.one (.int .i64)),.skip 10] [.box [.int .i64]] tm hp fun (xx : ((LL×Bool)×((Unit×(Unit×Unit))×(Unit×(Int×(Int×(Unit×Unit))))))) (yy : ((Int×Unit)×Unit))=>f48_p4 xx.1.1 xx.1.2 xx.2.2.2.1 (fun n0_0 n0_1=>K .ret ⟨mkS 19 [(4,I n0_0)],[.box [.p (pI n0_1)]]⟩) (fun n1_2=>K (.exit 0) ⟨mkS 19 [],[.box [.p (pI n1_2)]]⟩) (xx.2.2.2.2.1,yy.1.1)
def f48_tab : List (Nat×Told):=[(4,f48_p4L)]
def f48_call : FuncId→List TV→List Entry→(TV→List Entry→Prop)→Prop:=addCall 35 f35_G (noCalls)
def f48_C : Ctx:=mkC [(4,[(0,[0,1,7,8]),(2,[4]),(3,[])])] [] [] [] [] false 1 true (lookL f48_tab) f48_call
def f48_p4_mk (es4 : LL) (full5 : Bool) (n6 : Int) (x : Int×Int) : St:=⟨mkS 19 [(0,.w (.one (.p (.sl 11 es4 full5)))),(1,.w (.one (.clo 35 [] [.ptr 0 0 0]))),(7,I n6),(8,I x.1)],[.box [.p (pI x.2)]]⟩
theorem f48_p4e0 (es_10 : LL) (full_11 : Bool) (n_12 n_13 n_14 : Int) (N : St→Prop) (K : TExit→St→Prop) : (f48_p4b0 es_10 full_11 n_12 n_13 n_14 (fun z3 z4=>N (f48_p4_mk es_10 full_11 n_12 (z3,z4))) (fun n0_15 n0_16=>K .ret ⟨mkS 19 [(4,I n0_15)],[.box [.p (pI n0_16)]]⟩) (fun n1_17=>K (.exit 0) ⟨mkS 19 [],[.box [.p (pI n1_17)]]⟩)) = execT f48_C (bd Tryd.f48 0) (f48_p4_mk es_10 full_11 n_12 (n_13,n_14)) (loopK N (normK f48_C 4) fun e s=>K e (normOut f48_C 4 e s)):=by kernel_rfl
set_option maxHeartbeats 4000000 in
theorem f48_p4_ok : LoopOk f48_C (bd Tryd.f48 0):=by
  refine LoopOk.of f48_p4L (by kernel_rfl) fun σ K h=>?_
  have hk : loopKey (bd Tryd.f48 0) = 4:=by kernel_rfl
  rw [hk] at h ⊢
  generalize hs : normK f48_C 4 σ = s at h
  obtain ⟨tm,hp⟩:=s
  unfold f48_p4L at h
  dsimp only at h
  obtain ⟨xx,yy,rfl,rfl,h⟩:=getS_elim h
  refine iter_of (f48_p4_mk xx.1.1 xx.1.2 xx.2.2.2.1) (fun x N h=>?_) rounds _ σ (hs.trans (by kernel_rfl)) (LoopP.run h)
  obtain ⟨y0,y1⟩:=x
  rw [← f48_p4e0 xx.1.1 xx.1.2 xx.2.2.2.1 y0 y1 N K]
  exact h
def f48_G0 : List TV→List Entry→(TV→List Entry→Prop)→Prop:=fun tm hp K=>getS [.v (.one (.sl 11)),.v (.clo 35 [] [.ptr 0 0 0])] [.box [.int .i64]] tm hp fun (xx : ((LL×Bool)×((Unit×(Unit×Unit))×Unit))) (yy : ((Int×Unit)×Unit))=>f48 xx.1.1 xx.1.2 yy.1.1 (fun n0_3 n0_4=>K (I n0_3) [.box [.p (pI n0_4)]])
theorem f48_eq (es_18 : LL) (full_19 : Bool) (n_20 : Int) (K : TV→List Entry→Prop) : (f48_d es_18 full_19 n_20 (fun n0_3 n0_4=>K (I n0_3) [.box [.p (pI n0_4)]])) = funcT f48_C Tryd.f48 [.w (.one (.p (.sl 11 es_18 full_19))),.w (.one (.clo 35 [] [.ptr 0 0 0]))] [.box [.p (pI n_20)]] K:=by kernel_rfl
set_option maxHeartbeats 4000000 in
theorem f48_ok0 : FnOk Tryd.prog glob 48 f48_G0:=by
  refine FnOk.of_text (C:=f48_C) tab_ok.ok (Known.add f35_G_ok (Known.none)) follows_ok (fn:=Tryd.f48) (by kernel_rfl) (by kernel_rfl) (by kernel_rfl) (fun c hc=>?_) fun tm hp K h=>?_
  · have e : c = bodyOf Tryd.f48:=Option.some.inj (hc.symm.trans (by kernel_rfl))
    subst e
    exact ⟨LoopsOk.of [bd Tryd.f48 0] (by kernel_rfl) ⟨f48_p4_ok,trivial⟩,TailsOk.of (tab:=f48_tab) rfl [] (by kernel_rfl) trivial⟩
  · unfold f48_G0 at h
    obtain ⟨xx,yy,rfl,rfl,h⟩:=getS_elim h
    have e:=(f48_eq xx.1.1 xx.1.2 yy.1.1 K).trans (show _ = funcT f48_C Tryd.f48 (mkR _ xx) (mkE _ yy) K by kernel_rfl)
    rw [← e]
    exact h.run
abbrev f48_G:=f48_G0
theorem f48_G_ok : FnOk Tryd.prog glob 48 f48_G:=f48_ok0
def f34_d (es1 : LL) (full2 : Bool) (n3 : Int) (k0 : Bool→Int→Prop) : Prop:=f48 es1 full2 n3 (fun n4 n5=>k0 (decide (n4≥0)) n5)
structure f34 (es1 : LL) (full2 : Bool) (n3 : Int) (k0 : Bool→Int→Prop) : Prop where
  run : f34_d es1 full2 n3 k0
def f34_tab : List (Nat×Told):=[]
def f34_call : FuncId→List TV→List Entry→(TV→List Entry→Prop)→Prop:=addCall 48 f48_G (noCalls)
def f34_C : Ctx:=mkC [] [] [] [] [] false 1 true (lookL f34_tab) f34_call
def f34_G0 : List TV→List Entry→(TV→List Entry→Prop)→Prop:=fun tm hp K=>getS [.v (.one (.sl 11)),.v (.clo 35 [] [.ptr 0 0 0])] [.box [.int .i64]] tm hp fun (xx : ((LL×Bool)×((Unit×(Unit×Unit))×Unit))) (yy : ((Int×Unit)×Unit))=>f34 xx.1.1 xx.1.2 yy.1.1 (fun b0_0 n0_1=>K (B b0_0) [.box [.p (pI n0_1)]])
theorem f34_eq (es_2 : LL) (full_3 : Bool) (n_4 : Int) (K : TV→List Entry→Prop) : (f34_d es_2 full_3 n_4 (fun b0_0 n0_1=>K (B b0_0) [.box [.p (pI n0_1)]])) = funcT f34_C Tryd.f34 [.w (.one (.p (.sl 11 es_2 full_3))),.w (.one (.clo 35 [] [.ptr 0 0 0]))] [.box [.p (pI n_4)]] K:=by kernel_rfl
set_option maxHeartbeats 4000000 in
theorem f34_ok0 : FnOk Tryd.prog glob 34 f34_G0:=by
  refine FnOk.of_text (C:=f34_C) tab_ok.ok (Known.add f48_G_ok (Known.none)) follows_ok (fn:=Tryd.f34) (by kernel_rfl) (by kernel_rfl) (by kernel_rfl) (fun c hc=>?_) fun tm hp K h=>?_
  · have e : c = bodyOf Tryd.f34:=Option.some.inj (hc.symm.trans (by kernel_rfl))
    subst e
    exact ⟨LoopsOk.of [] (by kernel_rfl) trivial,TailsOk.of (tab:=f34_tab) rfl [] (by kernel_rfl) trivial⟩
  · unfold f34_G0 at h
    obtain ⟨xx,yy,rfl,rfl,h⟩:=getS_elim h
    have e:=(f34_eq xx.1.1 xx.1.2 yy.1.1 K).trans (show _ = funcT f34_C Tryd.f34 (mkR _ xx) (mkE _ yy) K by kernel_rfl)
    rw [← e]
    exact h.run
abbrev f34_G:=f34_G0
theorem f34_G_ok : FnOk Tryd.prog glob 34 f34_G:=f34_ok0
def f20_d (s1 : ByteArray) (es2 : LL) (full3 : Bool) (n4 : Int) (k0 : Bool→Prop) : Prop:=f34 es2 full3 n4 (fun b5 n6=>k0 b5)
structure f20 (s1 : ByteArray) (es2 : LL) (full3 : Bool) (n4 : Int) (k0 : Bool→Prop) : Prop where
  run : f20_d s1 es2 full3 n4 k0
def f20_tab : List (Nat×Told):=[]
def f20_call : FuncId→List TV→List Entry→(TV→List Entry→Prop)→Prop:=addCall 34 f34_G (noCalls)
def f20_C : Ctx:=mkC [] [] [] [] [] false 0 true (lookL f20_tab) f20_call
def f20_G0 : List TV→List Entry→(TV→List Entry→Prop)→Prop:=fun tm hp K=>getS [.v (.pagg [.str,.sl 11]),.v (.one (.int .i64))] [] tm hp fun (xx : ((ByteArray×((LL×Bool)×Unit))×(Int×Unit))) (yy : Unit)=>f20 xx.1.1 xx.1.2.1.1 xx.1.2.1.2 xx.2.1 (fun b0_0=>K (B b0_0) [])
theorem f20_eq (s_1 : ByteArray) (es_2 : LL) (full_3 : Bool) (n_4 : Int) (K : TV→List Entry→Prop) : (f20_d s_1 es_2 full_3 n_4 (fun b0_0=>K (B b0_0) [])) = funcT f20_C Tryd.f20 [.w (.pagg [pS s_1,.sl 11 es_2 full_3]),I n_4] [] K:=by kernel_rfl
set_option maxHeartbeats 4000000 in
theorem f20_ok0 : FnOk Tryd.prog glob 20 f20_G0:=by
  refine FnOk.of_text (C:=f20_C) tab_ok.ok (Known.add f34_G_ok (Known.none)) follows_ok (fn:=Tryd.f20) (by kernel_rfl) (by kernel_rfl) (by kernel_rfl) (fun c hc=>?_) fun tm hp K h=>?_
  · have e : c = bodyOf Tryd.f20:=Option.some.inj (hc.symm.trans (by kernel_rfl))
    subst e
    exact ⟨LoopsOk.of [] (by kernel_rfl) trivial,TailsOk.of (tab:=f20_tab) rfl [] (by kernel_rfl) trivial⟩
  · unfold f20_G0 at h
    obtain ⟨xx,yy,rfl,rfl,h⟩:=getS_elim h
    have e:=(f20_eq xx.1.1 xx.1.2.1.1 xx.1.2.1.2 xx.2.1 K).trans (show _ = funcT f20_C Tryd.f20 (mkR _ xx) (mkE _ yy) K by kernel_rfl)
    rw [← e]
    exact h.run
abbrev f20_G:=f20_G0
theorem f20_G_ok : FnOk Tryd.prog glob 20 f20_G:=f20_ok0
def f66_d (n1 : Int) (k0 : Bool→Prop) : Prop:=k0 (n1 != n1)
structure f66 (n1 : Int) (k0 : Bool→Prop) : Prop where
  run : f66_d n1 k0
def f66_tab : List (Nat×Told):=[]
def f66_call : FuncId→List TV→List Entry→(TV→List Entry→Prop)→Prop:=noCalls
def f66_C : Ctx:=mkC [] [] [] [] [] false 0 true (lookL f66_tab) f66_call
def f66_G0 : List TV→List Entry→(TV→List Entry→Prop)→Prop:=fun tm hp K=>getS [.v (.one (.int .i64))] [] tm hp fun (xx : (Int×Unit)) (yy : Unit)=>f66 xx.1 (fun b0_0=>K (B b0_0) [])
theorem f66_eq (n_1 : Int) (K : TV→List Entry→Prop) : (f66_d n_1 (fun b0_0=>K (B b0_0) [])) = funcT f66_C Tryd.f66 [I n_1] [] K:=by kernel_rfl
set_option maxHeartbeats 4000000 in
theorem f66_ok0 : FnOk Tryd.prog glob 66 f66_G0:=by
  refine FnOk.of_text (C:=f66_C) tab_ok.ok (Known.none) follows_ok (fn:=Tryd.f66) (by kernel_rfl) (by kernel_rfl) (by kernel_rfl) (fun c hc=>?_) fun tm hp K h=>?_
  · have e : c = bodyOf Tryd.f66:=Option.some.inj (hc.symm.trans (by kernel_rfl))
    subst e
    exact ⟨LoopsOk.of [] (by kernel_rfl) trivial,TailsOk.of (tab:=f66_tab) rfl [] (by kernel_rfl) trivial⟩
  · unfold f66_G0 at h
    obtain ⟨xx,yy,rfl,rfl,h⟩:=getS_elim h
    have e:=(f66_eq xx.1 K).trans (show _ = funcT f66_C Tryd.f66 (mkR _ xx) (mkE _ yy) K by kernel_rfl)
    rw [← e]
    exact h.run
abbrev f66_G:=f66_G0
theorem f66_G_ok : FnOk Tryd.prog glob 66 f66_G:=f66_ok0
def f42_d (n1 n2 : Int) (k0 : Int→Prop) : Prop:=f66 n1 (fun b3=>f66 n2 (fun b4=>bB b3 (bB b4 (k0 0) (k0 (-1))) (bB b4 (k0 1) (bB (decide (n1 < n2)) (k0 (-1)) (bB (decide (n1 > n2)) (k0 1) (k0 0))))))
structure f42 (n1 n2 : Int) (k0 : Int→Prop) : Prop where
  run : f42_d n1 n2 k0
def f42_tab : List (Nat×Told):=[]
def f42_call : FuncId→List TV→List Entry→(TV→List Entry→Prop)→Prop:=addCall 66 f66_G (noCalls)
def f42_C : Ctx:=mkC [] [] [] [] [] false 0 true (lookL f42_tab) f42_call
def f42_G0 : List TV→List Entry→(TV→List Entry→Prop)→Prop:=fun tm hp K=>getS [.v (.one (.int .i64)),.v (.one (.int .i64))] [] tm hp fun (xx : (Int×(Int×Unit))) (yy : Unit)=>f42 xx.1 xx.2.1 (fun n0_0=>K (I n0_0) [])
theorem f42_eq (n_1 n_2 : Int) (K : TV→List Entry→Prop) : (f42_d n_1 n_2 (fun n0_0=>K (I n0_0) [])) = funcT f42_C Tryd.f42 [I n_1,I n_2] [] K:=by kernel_rfl
set_option maxHeartbeats 4000000 in
theorem f42_ok0 : FnOk Tryd.prog glob 42 f42_G0:=by
  refine FnOk.of_text (C:=f42_C) tab_ok.ok (Known.add f66_G_ok (Known.none)) follows_ok (fn:=Tryd.f42) (by kernel_rfl) (by kernel_rfl) (by kernel_rfl) (fun c hc=>?_) fun tm hp K h=>?_
  · have e : c = bodyOf Tryd.f42:=Option.some.inj (hc.symm.trans (by kernel_rfl))
    subst e
    exact ⟨LoopsOk.of [] (by kernel_rfl) trivial,TailsOk.of (tab:=f42_tab) rfl [] (by kernel_rfl) trivial⟩
  · unfold f42_G0 at h
    obtain ⟨xx,yy,rfl,rfl,h⟩:=getS_elim h
    have e:=(f42_eq xx.1 xx.2.1 K).trans (show _ = funcT f42_C Tryd.f42 (mkR _ xx) (mkE _ yy) K by kernel_rfl)
    rw [← e]
    exact h.run
abbrev f42_G:=f42_G0
theorem f42_G_ok : FnOk Tryd.prog glob 42 f42_G:=f42_ok0
def f41_d (n1 n2 : Int) (es3 : LL) (full4 : Bool) (k0 : Int→(LL)→Bool→Prop) : Prop:=(0≤n1∧n1 < (es3.length : Int))∧oI .i64 (ext (List.getD es3 (Int.toNat n1) []) 13 1) fun n5=>(0≤n2∧n2 < (es3.length : Int))∧oI .i64 (ext (List.getD es3 (Int.toNat n2) []) 13 1) fun n6=>f42 n5 n6 (fun n7=>k0 n7 es3 full4)
structure f41 (n1 n2 : Int) (es3 : LL) (full4 : Bool) (k0 : Int→(LL)→Bool→Prop) : Prop where
  run : f41_d n1 n2 es3 full4 k0
def f41_tab : List (Nat×Told):=[]
def f41_call : FuncId→List TV→List Entry→(TV→List Entry→Prop)→Prop:=addCall 42 f42_G (noCalls)
def f41_C : Ctx:=mkC [] [] [] [] [] false 1 true (lookL f41_tab) f41_call
def f41_G0 : List TV→List Entry→(TV→List Entry→Prop)→Prop:=fun tm hp K=>getS [.v (.one (.int .i64)),.v (.one (.int .i64)),.v (.one (.ptr 0 0 0))] [.box [.sl 15]] tm hp fun (xx : (Int×(Int×(Unit×Unit)))) (yy : (((LL×Bool)×Unit)×Unit))=>f41 xx.1 xx.2.1 yy.1.1.1 yy.1.1.2 (fun n0_0 es0_1 full0_2=>K (I n0_0) [.box [.p (.sl 15 es0_1 full0_2)]])
theorem f41_eq (n_3 n_4 : Int) (es_5 : LL) (full_6 : Bool) (K : TV→List Entry→Prop) : (f41_d n_3 n_4 es_5 full_6 (fun n0_0 es0_1 full0_2=>K (I n0_0) [.box [.p (.sl 15 es0_1 full0_2)]])) = funcT f41_C Tryd.f41 [I n_3,I n_4,.w (.one (.ptr 0 0 0))] [.box [.p (.sl 15 es_5 full_6)]] K:=by kernel_rfl
set_option maxHeartbeats 4000000 in
theorem f41_ok0 : FnOk Tryd.prog glob 41 f41_G0:=by
  refine FnOk.of_text (C:=f41_C) tab_ok.ok (Known.add f42_G_ok (Known.none)) follows_ok (fn:=Tryd.f41) (by kernel_rfl) (by kernel_rfl) (by kernel_rfl) (fun c hc=>?_) fun tm hp K h=>?_
  · have e : c = bodyOf Tryd.f41:=Option.some.inj (hc.symm.trans (by kernel_rfl))
    subst e
    exact ⟨LoopsOk.of [] (by kernel_rfl) trivial,TailsOk.of (tab:=f41_tab) rfl [] (by kernel_rfl) trivial⟩
  · unfold f41_G0 at h
    obtain ⟨xx,yy,rfl,rfl,h⟩:=getS_elim h
    have e:=(f41_eq xx.1 xx.2.1 yy.1.1.1 yy.1.1.2 K).trans (show _ = funcT f41_C Tryd.f41 (mkR _ xx) (mkE _ yy) K by kernel_rfl)
    rw [← e]
    exact h.run
abbrev f41_G:=f41_G0
theorem f41_G_ok : FnOk Tryd.prog glob 41 f41_G:=f41_ok0
def f84_p13 (i30 n31 : Nat) (n32 n33 : Int) (n34 n35 : Int) (es36 es37 : LL) (full38 : Bool) (k0 : Int→(LL)→Prop) : Prop:=(0≤(w64 (n35 - 1))∧(w64 (n35 - 1)) < (n31 : Int))∧oI .i64 (ext (List.getD es36 (i30 + (Int.toNat (w64 (n35 - 1)))) []) 0 1) fun n39=>(0≤n35∧n35 < (n31 : Int))∧oI .i64 (ext (List.getD es36 (i30 + (Int.toNat n35)) []) 0 1) fun n40=>(0≤n35∧n35 < (n31 : Int))∧(i30 + (Int.toNat n35)) < es36.length∧(0≤(w64 (n35 - 1))∧(w64 (n35 - 1)) < (n31 : Int))∧(i30 + (Int.toNat (w64 (n35 - 1)))) < (List.set es36 (i30 + (Int.toNat n35)) (splice (List.getD es36 (i30 + (Int.toNat n35)) []) 0 [pI n39])).length∧k0 (w64 (n35 - 1)) (List.set (List.set es36 (i30 + (Int.toNat n35)) (splice (List.getD es36 (i30 + (Int.toNat n35)) []) 0 [pI n39])) (i30 + (Int.toNat (w64 (n35 - 1)))) (splice (List.getD (List.set es36 (i30 + (Int.toNat n35)) (splice (List.getD es36 (i30 + (Int.toNat n35)) []) 0 [pI n39])) (i30 + (Int.toNat (w64 (n35 - 1)))) []) 0 [pI n40]))
def f84_p8b0 (i16 n17 : Nat) (n18 n19 : Int) (n20 n21 : Int) (es22 es23 : LL) (full24 : Bool) (N0 : Int→(LL)→(LL)→Bool→Prop) (k0 : (LL)→(LL)→Bool→Prop) : Prop:=bB (decide (n21 > n18)) ((0≤n21∧n21 < (n17 : Int))∧oI .i64 (ext (List.getD es22 (i16 + (Int.toNat n21)) []) 0 1) fun n25=>(0≤(w64 (n21 - 1))∧(w64 (n21 - 1)) < (n17 : Int))∧oI .i64 (ext (List.getD es22 (i16 + (Int.toNat (w64 (n21 - 1)))) []) 0 1) fun n26=>f41 n25 n26 es23 full24 (fun n27 es28 full29=>bB (decide (n27 < 0)) (f84_p13 i16 n17 n18 n19 n20 n21 es22 es28 full29 (fun n41 es42=>N0 n41 es42 es28 full29)) (k0 es22 es28 full29))) (k0 es22 es23 full24)
def f84_p8 (i16 n17 : Nat) (n18 n19 n20 : Int) (k0 : (LL)→(LL)→Bool→Prop) : Int×(LL)×(LL)×Bool→Prop:=LoopP fun x N=>f84_p8b0 i16 n17 n18 n19 n20 x.1 x.2.1 x.2.2.1 x.2.2.2 (fun n21 es22 es23 full24=>N (n21,es22,es23,full24)) k0
def f84_p2b0 (i8 n9 : Nat) (n10 n11 n12 : Int) (es13 es14 : LL) (full15 : Bool) (N0 : Int→(LL)→(LL)→Bool→Prop) (k0 : (LL)→(LL)→Bool→Prop) : Prop:=bB (decide (n12 < n11)) (f84_p8 i8 n9 n10 n11 n12 (fun es43 es44 full45=>N0 (w64 (n12 + 1)) es43 es44 full45) (n12,es13,es14,full15)) (k0 es13 es14 full15)
def f84_p2 (i8 n9 : Nat) (n10 n11 : Int) (k0 : (LL)→(LL)→Bool→Prop) : Int×(LL)×(LL)×Bool→Prop:=LoopP fun x N=>f84_p2b0 i8 n9 n10 n11 x.1 x.2.1 x.2.2.1 x.2.2.2 (fun n12 es13 es14 full15=>N (n12,es13,es14,full15)) k0
def f84_d (i1 n2 : Nat) (n3 n4 : Int) (es5 es6 : LL) (full7 : Bool) (k0 : (LL)→(LL)→Bool→Prop) : Prop:=f84_p2 i1 n2 n3 n4 (fun es46 es47 full48=>k0 es46 es47 full48) ((w64 (n3 + 1)),es5,es6,full7)
structure f84 (i1 n2 : Nat) (n3 n4 : Int) (es5 es6 : LL) (full7 : Bool) (k0 : (LL)→(LL)→Bool→Prop) : Prop where
  run : f84_d i1 n2 n3 n4 es5 es6 full7 k0
def f84_p13L : Told:=fun s K=>match s with
  | ⟨tm,hp⟩=>getS [.v (.one (.ref 0)),.v (.one (.int .i64)),.v (.one (.int .i64)),.v (.clo 41 [] [.ptr 1 0 0]),.skip 4,.v (.one (.int .i64)),.v (.one (.int .i64)),.skip 43] [.vec 1 true,.box [.sl 15]] tm hp fun (xx : ((Nat×Nat)×(Int×(Int×((Unit×(Unit×Unit))×(Unit×(Int×(Int×(Unit×Unit))))))))) (yy : ((LL)×(((LL×Bool)×Unit)×Unit)))=>f84_p13 xx.1.1 xx.1.2 xx.2.1 xx.2.2.1 xx.2.2.2.2.2.1 xx.2.2.2.2.2.2.1 yy.1 yy.2.1.1.1 yy.2.1.1.2 (fun n0_0 es0_1=>K .normal ⟨mkS 53 [(0,.w (.one (.ref 0 xx.1.1 xx.1.2))),(1,I xx.2.1),(2,I xx.2.2.1),(3,.w (.one (.clo 41 [] [.ptr 1 0 0]))),(8,I xx.2.2.2.2.2.1),(9,I n0_0)],[.vec 1 es0_1 true,.box [.p (.sl 15 yy.2.1.1.1 yy.2.1.1.2)]]⟩)
def f84_p8L : Told:=fun s K=>match s with
  | ⟨tm,hp⟩=>getS [.v (.one (.ref 0)),.v (.one (.int .i64)),.v (.one (.int .i64)),.v (.clo 41 [] [.ptr 1 0 0]),.skip 4,.v (.one (.int .i64)),.v (.one (.int .i64)),.skip 43] [.vec 1 true,.box [.sl 15]] tm hp fun (xx : ((Nat×Nat)×(Int×(Int×((Unit×(Unit×Unit))×(Unit×(Int×(Int×(Unit×Unit))))))))) (yy : ((LL)×(((LL×Bool)×Unit)×Unit)))=>f84_p8 xx.1.1 xx.1.2 xx.2.1 xx.2.2.1 xx.2.2.2.2.2.1 (fun es0_2 es0_3 full0_4=>K (.exit 2) ⟨mkS 53 [(0,.w (.one (.ref 0 xx.1.1 xx.1.2))),(1,I xx.2.1),(2,I xx.2.2.1),(3,.w (.one (.clo 41 [] [.ptr 1 0 0]))),(8,I xx.2.2.2.2.2.1)],[.vec 1 es0_2 true,.box [.p (.sl 15 es0_3 full0_4)]]⟩) (xx.2.2.2.2.2.2.1,yy.1,yy.2.1.1.1,yy.2.1.1.2)
def f84_p2L : Told:=fun s K=>match s with
  | ⟨tm,hp⟩=>getS [.v (.one (.ref 0)),.v (.one (.int .i64)),.v (.one (.int .i64)),.v (.clo 41 [] [.ptr 1 0 0]),.skip 4,.v (.one (.int .i64)),.skip 44] [.vec 1 true,.box [.sl 15]] tm hp fun (xx : ((Nat×Nat)×(Int×(Int×((Unit×(Unit×Unit))×(Unit×(Int×(Unit×Unit)))))))) (yy : ((LL)×(((LL×Bool)×Unit)×Unit)))=>f84_p2 xx.1.1 xx.1.2 xx.2.1 xx.2.2.1 (fun es0_5 es0_6 full0_7=>K (.exit 0) ⟨mkS 53 [],[.vec 1 es0_5 true,.box [.p (.sl 15 es0_6 full0_7)]]⟩) (xx.2.2.2.2.2.1,yy.1,yy.2.1.1.1,yy.2.1.1.2)
def f84_tab : List (Nat×Told):=[(13,f84_p13L),(8,f84_p8L),(2,f84_p2L)]
def f84_call : FuncId→List TV→List Entry→(TV→List Entry→Prop)→Prop:=addCall 41 f41_G (noCalls)
def f84_C : Ctx:=mkC [(13,[(0,[0,1,2,3,8,9]),(1,[0,1,2,3,8,9]),(2,[]),(3,[]),(4,[0,1,2,3,8]),(5,[0,1,2,3,8])]),(8,[(0,[0,1,2,3,8,9]),(2,[]),(3,[]),(4,[0,1,2,3,8]),(5,[0,1,2,3,8])]),(2,[(0,[0,1,2,3,8]),(2,[]),(3,[])])] [] [] [] [] true 2 false (lookL f84_tab) f84_call
theorem f84_p13e0 (i_11 n_12 : Nat) (n_13 n_14 : Int) (n_15 n_16 : Int) (es_17 es_18 : LL) (full_19 : Bool) (K : TExit→St→Prop) : (f84_p13 i_11 n_12 n_13 n_14 n_15 n_16 es_17 es_18 full_19 (fun n0_20 es0_21=>K .normal ⟨mkS 53 [(0,.w (.one (.ref 0 i_11 n_12))),(1,I n_13),(2,I n_14),(3,.w (.one (.clo 41 [] [.ptr 1 0 0]))),(8,I n_15),(9,I n0_20)],[.vec 1 es0_21 true,.box [.p (.sl 15 es_18 full_19)]]⟩)) = execT f84_C (nthC (tails (bodyOf Tryd.f84)) 5) ⟨mkS 53 [(0,.w (.one (.ref 0 i_11 n_12))),(1,I n_13),(2,I n_14),(3,.w (.one (.clo 41 [] [.ptr 1 0 0]))),(8,I n_15),(9,I n_16)],[.vec 1 es_17 true,.box [.p (.sl 15 es_18 full_19)]]⟩ (fun e s=>K e (normOut f84_C 13 e s)):=by kernel_rfl
def f84_p8_mk (i16 n17 : Nat) (n18 n19 n20 : Int) (x : Int×(LL)×(LL)×Bool) : St:=⟨mkS 53 [(0,.w (.one (.ref 0 i16 n17))),(1,I n18),(2,I n19),(3,.w (.one (.clo 41 [] [.ptr 1 0 0]))),(8,I n20),(9,I x.1)],[.vec 1 x.2.1 true,.box [.p (.sl 15 x.2.2.1 x.2.2.2)]]⟩
theorem f84_p8e0 (i_31 n_32 : Nat) (n_33 n_34 : Int) (n_35 n_36 : Int) (es_37 es_38 : LL) (full_39 : Bool) (N : St→Prop) (K : TExit→St→Prop) : (f84_p8b0 i_31 n_32 n_33 n_34 n_35 n_36 es_37 es_38 full_39 (fun z5 z6 z7 z8=>N (f84_p8_mk i_31 n_32 n_33 n_34 n_35 (z5,z6,z7,z8))) (fun es0_40 es0_41 full0_42=>K (.exit 2) ⟨mkS 53 [(0,.w (.one (.ref 0 i_31 n_32))),(1,I n_33),(2,I n_34),(3,.w (.one (.clo 41 [] [.ptr 1 0 0]))),(8,I n_35)],[.vec 1 es0_40 true,.box [.p (.sl 15 es0_41 full0_42)]]⟩)) = execT f84_C (bd Tryd.f84 1) (f84_p8_mk i_31 n_32 n_33 n_34 n_35 (n_36,es_37,es_38,full_39)) (loopK N (normK f84_C 8) fun e s=>K e (normOut f84_C 8 e s)):=by kernel_rfl
def f84_p2_mk (i8 n9 : Nat) (n10 n11 : Int) (x : Int×(LL)×(LL)×Bool) : St:=⟨mkS 53 [(0,.w (.one (.ref 0 i8 n9))),(1,I n10),(2,I n11),(3,.w (.one (.clo 41 [] [.ptr 1 0 0]))),(8,I x.1)],[.vec 1 x.2.1 true,.box [.p (.sl 15 x.2.2.1 x.2.2.2)]]⟩
theorem f84_p2e0 (i_51 n_52 : Nat) (n_53 n_54 n_55 : Int) (es_56 es_57 : LL) (full_58 : Bool) (N : St→Prop) (K : TExit→St→Prop) : (f84_p2b0 i_51 n_52 n_53 n_54 n_55 es_56 es_57 full_58 (fun z4 z5 z6 z7=>N (f84_p2_mk i_51 n_52 n_53 n_54 (z4,z5,z6,z7))) (fun es0_59 es0_60 full0_61=>K (.exit 0) ⟨mkS 53 [],[.vec 1 es0_59 true,.box [.p (.sl 15 es0_60 full0_61)]]⟩)) = execT f84_C (bd Tryd.f84 0) (f84_p2_mk i_51 n_52 n_53 n_54 (n_55,es_56,es_57,full_58)) (loopK N (normK f84_C 2) fun e s=>K e (normOut f84_C 2 e s)):=by kernel_rfl
set_option maxHeartbeats 4000000 in
theorem f84_p13_ok : TailOk f84_C (nthC (tails (bodyOf Tryd.f84)) 5):=by
  refine TailOk.of f84_p13L (by kernel_rfl) fun σ K h=>?_
  have hk : joinKey (nthC (tails (bodyOf Tryd.f84)) 5) = 13:=by kernel_rfl
  rw [hk] at h ⊢
  generalize hs : normK f84_C 13 σ = s at h
  obtain ⟨tm,hp⟩:=s
  unfold f84_p13L at h
  dsimp only at h
  obtain ⟨xx,yy,rfl,rfl,h⟩:=getS_elim h
  have q : normK f84_C 13 σ = (⟨mkS 53 [(0,.w (.one (.ref 0 xx.1.1 xx.1.2))),(1,I xx.2.1),(2,I xx.2.2.1),(3,.w (.one (.clo 41 [] [.ptr 1 0 0]))),(8,I xx.2.2.2.2.2.1),(9,I xx.2.2.2.2.2.2.1)],[.vec 1 yy.1 true,.box [.p (.sl 15 yy.2.1.1.1 yy.2.1.1.2)]]⟩ : St):=hs.trans (by kernel_rfl)
  rw [← hs,q,← f84_p13e0 xx.1.1 xx.1.2 xx.2.1 xx.2.2.1 xx.2.2.2.2.2.1 xx.2.2.2.2.2.2.1 yy.1 yy.2.1.1.1 yy.2.1.1.2 K]
  exact h
set_option maxHeartbeats 4000000 in
theorem f84_p8_ok : LoopOk f84_C (bd Tryd.f84 1):=by
  refine LoopOk.of f84_p8L (by kernel_rfl) fun σ K h=>?_
  have hk : loopKey (bd Tryd.f84 1) = 8:=by kernel_rfl
  rw [hk] at h ⊢
  generalize hs : normK f84_C 8 σ = s at h
  obtain ⟨tm,hp⟩:=s
  unfold f84_p8L at h
  dsimp only at h
  obtain ⟨xx,yy,rfl,rfl,h⟩:=getS_elim h
  refine iter_of (f84_p8_mk xx.1.1 xx.1.2 xx.2.1 xx.2.2.1 xx.2.2.2.2.2.1) (fun x N h=>?_) rounds _ σ (hs.trans (by kernel_rfl)) (LoopP.run h)
  obtain ⟨y0,y1,y2,y3⟩:=x
  rw [← f84_p8e0 xx.1.1 xx.1.2 xx.2.1 xx.2.2.1 xx.2.2.2.2.2.1 y0 y1 y2 y3 N K]
  exact h
set_option maxHeartbeats 4000000 in
theorem f84_p2_ok : LoopOk f84_C (bd Tryd.f84 0):=by
  refine LoopOk.of f84_p2L (by kernel_rfl) fun σ K h=>?_
  have hk : loopKey (bd Tryd.f84 0) = 2:=by kernel_rfl
  rw [hk] at h ⊢
  generalize hs : normK f84_C 2 σ = s at h
  obtain ⟨tm,hp⟩:=s
  unfold f84_p2L at h
  dsimp only at h
  obtain ⟨xx,yy,rfl,rfl,h⟩:=getS_elim h
  refine iter_of (f84_p2_mk xx.1.1 xx.1.2 xx.2.1 xx.2.2.1) (fun x N h=>?_) rounds _ σ (hs.trans (by kernel_rfl)) (LoopP.run h)
  obtain ⟨y0,y1,y2,y3⟩:=x
  rw [← f84_p2e0 xx.1.1 xx.1.2 xx.2.1 xx.2.2.1 y0 y1 y2 y3 N K]
  exact h
def f84_G0 : List TV→List Entry→(TV→List Entry→Prop)→Prop:=fun tm hp K=>getS [.v (.one (.ref 0)),.v (.one (.int .i64)),.v (.one (.int .i64)),.v (.clo 41 [] [.ptr 1 0 0])] [.vec 1 true,.box [.sl 15]] tm hp fun (xx : ((Nat×Nat)×(Int×(Int×((Unit×(Unit×Unit))×Unit))))) (yy : ((LL)×(((LL×Bool)×Unit)×Unit)))=>f84 xx.1.1 xx.1.2 xx.2.1 xx.2.2.1 yy.1 yy.2.1.1.1 yy.2.1.1.2 (fun es0_8 es0_9 full0_10=>K undefT [.vec 1 es0_8 true,.box [.p (.sl 15 es0_9 full0_10)]])
theorem f84_eq (i_62 n_63 : Nat) (n_64 n_65 : Int) (es_66 es_67 : LL) (full_68 : Bool) (K : TV→List Entry→Prop) : (f84_d i_62 n_63 n_64 n_65 es_66 es_67 full_68 (fun es0_8 es0_9 full0_10=>K undefT [.vec 1 es0_8 true,.box [.p (.sl 15 es0_9 full0_10)]])) = funcT f84_C Tryd.f84 [.w (.one (.ref 0 i_62 n_63)),I n_64,I n_65,.w (.one (.clo 41 [] [.ptr 1 0 0]))] [.vec 1 es_66 true,.box [.p (.sl 15 es_67 full_68)]] K:=by kernel_rfl
set_option maxHeartbeats 4000000 in
theorem f84_ok0 : FnOk Tryd.prog glob 84 f84_G0:=by
  refine FnOk.of_text (C:=f84_C) tab_ok.ok (Known.add f41_G_ok (Known.none)) follows_ok (fn:=Tryd.f84) (by kernel_rfl) (by kernel_rfl) (by kernel_rfl) (fun c hc=>?_) fun tm hp K h=>?_
  · have e : c = bodyOf Tryd.f84:=Option.some.inj (hc.symm.trans (by kernel_rfl))
    subst e
    exact ⟨LoopsOk.of [bd Tryd.f84 0,bd Tryd.f84 1] (by kernel_rfl) ⟨f84_p2_ok,f84_p8_ok,trivial⟩,TailsOk.of (tab:=f84_tab) rfl [nthC (tails (bodyOf Tryd.f84)) 5] (by kernel_rfl) ⟨f84_p13_ok,trivial⟩⟩
  · unfold f84_G0 at h
    obtain ⟨xx,yy,rfl,rfl,h⟩:=getS_elim h
    have e:=(f84_eq xx.1.1 xx.1.2 xx.2.1 xx.2.2.1 yy.1 yy.2.1.1.1 yy.2.1.1.2 K).trans (show _ = funcT f84_C Tryd.f84 (mkR _ xx) (mkE _ yy) K by kernel_rfl)
    rw [← e]
    exact h.run
abbrev f84_G:=f84_G0
theorem f84_G_ok : FnOk Tryd.prog glob 84 f84_G:=f84_ok0
def f94_p4b0 (i9 n10 : Nat) (n11 n12 n13 : Int) (es14 es15 : LL) (full16 : Bool) (N0 : Int→Int→(LL)→(LL)→Bool→Prop) (k0 : Int→(LL)→(LL)→Bool→Prop) : Prop:=bB (n12 != n13) (bB (decide (n12 > n13)) (f96 i9 n10 (w64 (n11 - n12)) n11 n13 es14 es15 full16 (fun es17 es18 full19=>N0 (w64 (n12 - n13)) n13 es17 es18 full19)) (f96 i9 n10 (w64 (n11 - n12)) (w64 ((w64 (n11 + n13)) - n12)) n12 es14 es15 full16 (fun es20 es21 full22=>N0 n12 (w64 (n13 - n12)) es20 es21 full22))) (k0 n12 es14 es15 full16)
def f94_p4 (i9 n10 : Nat) (n11 : Int) (k0 : Int→(LL)→(LL)→Bool→Prop) : Int×Int×(LL)×(LL)×Bool→Prop:=LoopP fun x N=>f94_p4b0 i9 n10 n11 x.1 x.2.1 x.2.2.1 x.2.2.2.1 x.2.2.2.2 (fun n12 n13 es14 es15 full16=>N (n12,n13,es14,es15,full16)) k0
def f94_d (i1 n2 : Nat) (n3 n4 n5 : Int) (es6 es7 : LL) (full8 : Bool) (k0 : (LL)→(LL)→Bool→Prop) : Prop:=f94_p4 i1 n2 n4 (fun n23 es24 es25 full26=>f96 i1 n2 (w64 (n4 - n23)) n4 n23 es24 es25 full26 (fun es27 es28 full29=>k0 es27 es28 full29)) ((w64 (n4 - n3)),(w64 (n5 - n4)),es6,es7,full8)
structure f94 (i1 n2 : Nat) (n3 n4 n5 : Int) (es6 es7 : LL) (full8 : Bool) (k0 : (LL)→(LL)→Bool→Prop) : Prop where
  run : f94_d i1 n2 n3 n4 n5 es6 es7 full8 k0
def f94_p4L : Told:=fun s K=>match s with
  | ⟨tm,hp⟩=>getS [.v (.one (.ref 0)),.skip 1,.v (.one (.int .i64)),.skip 1,.v (.clo 41 [] [.ptr 1 0 0]),.skip 5,.v (.one (.int .i64)),.v (.one (.int .i64)),.skip 46] [.vec 1 true,.box [.sl 15]] tm hp fun (xx : ((Nat×Nat)×(Unit×(Int×(Unit×((Unit×(Unit×Unit))×(Unit×(Int×(Int×(Unit×Unit)))))))))) (yy : ((LL)×(((LL×Bool)×Unit)×Unit)))=>f94_p4 xx.1.1 xx.1.2 xx.2.2.1 (fun n0_0 es0_1 es0_2 full0_3=>K (.exit 0) ⟨mkS 58 [(0,.w (.one (.ref 0 xx.1.1 xx.1.2))),(2,I xx.2.2.1),(4,.w (.one (.clo 41 [] [.ptr 1 0 0]))),(10,I n0_0)],[.vec 1 es0_1 true,.box [.p (.sl 15 es0_2 full0_3)]]⟩) (xx.2.2.2.2.2.2.1,xx.2.2.2.2.2.2.2.1,yy.1,yy.2.1.1.1,yy.2.1.1.2)
def f94_tab : List (Nat×Told):=[(4,f94_p4L)]
def f94_call : FuncId→List TV→List Entry→(TV→List Entry→Prop)→Prop:=addCall 96 f96_G (noCalls)
def f94_C : Ctx:=mkC [(4,[(0,[0,2,4,10,11]),(2,[]),(3,[0,2,4,10])])] [] [] [] [] true 2 false (lookL f94_tab) f94_call
def f94_p4_mk (i9 n10 : Nat) (n11 : Int) (x : Int×Int×(LL)×(LL)×Bool) : St:=⟨mkS 58 [(0,.w (.one (.ref 0 i9 n10))),(2,I n11),(4,.w (.one (.clo 41 [] [.ptr 1 0 0]))),(10,I x.1),(11,I x.2.1)],[.vec 1 x.2.2.1 true,.box [.p (.sl 15 x.2.2.2.1 x.2.2.2.2)]]⟩
theorem f94_p4e0 (i_15 n_16 : Nat) (n_17 n_18 n_19 : Int) (es_20 es_21 : LL) (full_22 : Bool) (N : St→Prop) (K : TExit→St→Prop) : (f94_p4b0 i_15 n_16 n_17 n_18 n_19 es_20 es_21 full_22 (fun z3 z4 z5 z6 z7=>N (f94_p4_mk i_15 n_16 n_17 (z3,z4,z5,z6,z7))) (fun n0_23 es0_24 es0_25 full0_26=>K (.exit 0) ⟨mkS 58 [(0,.w (.one (.ref 0 i_15 n_16))),(2,I n_17),(4,.w (.one (.clo 41 [] [.ptr 1 0 0]))),(10,I n0_23)],[.vec 1 es0_24 true,.box [.p (.sl 15 es0_25 full0_26)]]⟩)) = execT f94_C (bd Tryd.f94 0) (f94_p4_mk i_15 n_16 n_17 (n_18,n_19,es_20,es_21,full_22)) (loopK N (normK f94_C 4) fun e s=>K e (normOut f94_C 4 e s)):=by kernel_rfl
set_option maxHeartbeats 4000000 in
theorem f94_p4_ok : LoopOk f94_C (bd Tryd.f94 0):=by
  refine LoopOk.of f94_p4L (by kernel_rfl) fun σ K h=>?_
  have hk : loopKey (bd Tryd.f94 0) = 4:=by kernel_rfl
  rw [hk] at h ⊢
  generalize hs : normK f94_C 4 σ = s at h
  obtain ⟨tm,hp⟩:=s
  unfold f94_p4L at h
  dsimp only at h
  obtain ⟨xx,yy,rfl,rfl,h⟩:=getS_elim h
  refine iter_of (f94_p4_mk xx.1.1 xx.1.2 xx.2.2.1) (fun x N h=>?_) rounds _ σ (hs.trans (by kernel_rfl)) (LoopP.run h)
  obtain ⟨y0,y1,y2,y3,y4⟩:=x
  rw [← f94_p4e0 xx.1.1 xx.1.2 xx.2.2.1 y0 y1 y2 y3 y4 N K]
  exact h
def f94_G0 : List TV→List Entry→(TV→List Entry→Prop)→Prop:=fun tm hp K=>getS [.v (.one (.ref 0)),.v (.one (.int .i64)),.v (.one (.int .i64)),.v (.one (.int .i64)),.v (.clo 41 [] [.ptr 1 0 0])] [.vec 1 true,.box [.sl 15]] tm hp fun (xx : ((Nat×Nat)×(Int×(Int×(Int×((Unit×(Unit×Unit))×Unit)))))) (yy : ((LL)×(((LL×Bool)×Unit)×Unit)))=>f94 xx.1.1 xx.1.2 xx.2.1 xx.2.2.1 xx.2.2.2.1 yy.1 yy.2.1.1.1 yy.2.1.1.2 (fun es0_4 es0_5 full0_6=>K undefT [.vec 1 es0_4 true,.box [.p (.sl 15 es0_5 full0_6)]])
theorem f94_eq (i_27 n_28 : Nat) (n_29 n_30 n_31 : Int) (es_32 es_33 : LL) (full_34 : Bool) (K : TV→List Entry→Prop) : (f94_d i_27 n_28 n_29 n_30 n_31 es_32 es_33 full_34 (fun es0_4 es0_5 full0_6=>K undefT [.vec 1 es0_4 true,.box [.p (.sl 15 es0_5 full0_6)]])) = funcT f94_C Tryd.f94 [.w (.one (.ref 0 i_27 n_28)),I n_29,I n_30,I n_31,.w (.one (.clo 41 [] [.ptr 1 0 0]))] [.vec 1 es_32 true,.box [.p (.sl 15 es_33 full_34)]] K:=by kernel_rfl
set_option maxHeartbeats 4000000 in
theorem f94_ok0 : FnOk Tryd.prog glob 94 f94_G0:=by
  refine FnOk.of_text (C:=f94_C) tab_ok.ok (Known.add f96_G_ok (Known.none)) follows_ok (fn:=Tryd.f94) (by kernel_rfl) (by kernel_rfl) (by kernel_rfl) (fun c hc=>?_) fun tm hp K h=>?_
  · have e : c = bodyOf Tryd.f94:=Option.some.inj (hc.symm.trans (by kernel_rfl))
    subst e
    exact ⟨LoopsOk.of [bd Tryd.f94 0] (by kernel_rfl) ⟨f94_p4_ok,trivial⟩,TailsOk.of (tab:=f94_tab) rfl [] (by kernel_rfl) trivial⟩
  · unfold f94_G0 at h
    obtain ⟨xx,yy,rfl,rfl,h⟩:=getS_elim h
    have e:=(f94_eq xx.1.1 xx.1.2 xx.2.1 xx.2.2.1 xx.2.2.2.1 yy.1 yy.2.1.1.1 yy.2.1.1.2 K).trans (show _ = funcT f94_C Tryd.f94 (mkR _ xx) (mkE _ yy) K by kernel_rfl)
    rw [← e]
    exact h.run
abbrev f94_G:=f94_G0
theorem f94_G_ok : FnOk Tryd.prog glob 94 f94_G:=f94_ok0
abbrev f85_T : Type:=Nat→Nat→Int→Int→Int→(LL)→(LL)→Bool→((LL)→(LL)→Bool→Prop)→Prop
def f85_p6b0 (R : f85_T) (i9 n10 : Nat) (n11 n12 n13 : Int) (es14 es15 : LL) (full16 : Bool) (N0 : Int→Int→(LL)→Bool→Prop) (k0 : Int→(LL)→Bool→Prop) : Prop:=bB (decide (n12 < n13)) (0≤(1 : Int)∧(0≤(w64 (Int.fdiv (IntKind.wrap .u64 (w64 (n12 + n13))) (2 ^ (min (Int.toNat 1) 64))))∧(w64 (Int.fdiv (IntKind.wrap .u64 (w64 (n12 + n13))) (2 ^ (min (Int.toNat 1) 64)))) < (n10 : Int))∧oI .i64 (ext (List.getD es14 (i9 + (Int.toNat (w64 (Int.fdiv (IntKind.wrap .u64 (w64 (n12 + n13))) (2 ^ (min (Int.toNat 1) 64)))))) []) 0 1) fun n17=>(0≤n11∧n11 < (n10 : Int))∧oI .i64 (ext (List.getD es14 (i9 + (Int.toNat n11)) []) 0 1) fun n18=>f41 n17 n18 es15 full16 (fun n19 es20 full21=>bB (decide (n19 < 0)) (N0 (w64 ((w64 (Int.fdiv (IntKind.wrap .u64 (w64 (n12 + n13))) (2 ^ (min (Int.toNat 1) 64)))) + 1)) n13 es20 full21) (N0 n12 (w64 (Int.fdiv (IntKind.wrap .u64 (w64 (n12 + n13))) (2 ^ (min (Int.toNat 1) 64)))) es20 full21))) (k0 n12 es15 full16)
def f85_p6 (R : f85_T) (i9 n10 : Nat) (n11 : Int) (es14 : LL) (k0 : Int→(LL)→Bool→Prop) : Int×Int×(LL)×Bool→Prop:=LoopP fun x N=>(f85_p6b0 R) i9 n10 n11 x.1 x.2.1 es14 x.2.2.1 x.2.2.2 (fun n12 n13 es15 full16=>N (n12,n13,es15,full16)) k0
def f85_p18b0 (R : f85_T) (i25 n26 : Nat) (n27 n28 : Int) (es29 es30 : LL) (full31 : Bool) (N0 : Int→(LL)→Prop) (k0 : (LL)→Prop) : Prop:=bB (decide (n28 < (w64 (n27 - 1)))) ((0≤(w64 (n28 + 1))∧(w64 (n28 + 1)) < (n26 : Int))∧oI .i64 (ext (List.getD es29 (i25 + (Int.toNat (w64 (n28 + 1)))) []) 0 1) fun n32=>(0≤n28∧n28 < (n26 : Int))∧oI .i64 (ext (List.getD es29 (i25 + (Int.toNat n28)) []) 0 1) fun n33=>(0≤n28∧n28 < (n26 : Int))∧(i25 + (Int.toNat n28)) < es29.length∧(0≤(w64 (n28 + 1))∧(w64 (n28 + 1)) < (n26 : Int))∧(i25 + (Int.toNat (w64 (n28 + 1)))) < (List.set es29 (i25 + (Int.toNat n28)) (splice (List.getD es29 (i25 + (Int.toNat n28)) []) 0 [pI n32])).length∧N0 (w64 (n28 + 1)) (List.set (List.set es29 (i25 + (Int.toNat n28)) (splice (List.getD es29 (i25 + (Int.toNat n28)) []) 0 [pI n32])) (i25 + (Int.toNat (w64 (n28 + 1)))) (splice (List.getD (List.set es29 (i25 + (Int.toNat n28)) (splice (List.getD es29 (i25 + (Int.toNat n28)) []) 0 [pI n32])) (i25 + (Int.toNat (w64 (n28 + 1)))) []) 0 [pI n33]))) (k0 es29)
def f85_p18 (R : f85_T) (i25 n26 : Nat) (n27 : Int) (es30 : LL) (full31 : Bool) (k0 : (LL)→Prop) : Int×(LL)→Prop:=LoopP fun x N=>(f85_p18b0 R) i25 n26 n27 x.1 x.2 es30 full31 (fun n28 es29=>N (n28,es29)) k0
def f85_p30b0 (R : f85_T) (i35 n36 : Nat) (n37 n38 n39 : Int) (es40 es41 : LL) (full42 : Bool) (N0 : Int→Int→(LL)→Bool→Prop) (k0 : Int→(LL)→Bool→Prop) : Prop:=bB (decide (n38 < n39)) (0≤(1 : Int)∧(0≤n37∧n37 < (n36 : Int))∧oI .i64 (ext (List.getD es40 (i35 + (Int.toNat n37)) []) 0 1) fun n43=>(0≤(w64 (Int.fdiv (IntKind.wrap .u64 (w64 (n38 + n39))) (2 ^ (min (Int.toNat 1) 64))))∧(w64 (Int.fdiv (IntKind.wrap .u64 (w64 (n38 + n39))) (2 ^ (min (Int.toNat 1) 64)))) < (n36 : Int))∧oI .i64 (ext (List.getD es40 (i35 + (Int.toNat (w64 (Int.fdiv (IntKind.wrap .u64 (w64 (n38 + n39))) (2 ^ (min (Int.toNat 1) 64)))))) []) 0 1) fun n44=>f41 n43 n44 es41 full42 (fun n45 es46 full47=>bB (!(decide (n45 < 0))) (N0 (w64 ((w64 (Int.fdiv (IntKind.wrap .u64 (w64 (n38 + n39))) (2 ^ (min (Int.toNat 1) 64)))) + 1)) n39 es46 full47) (N0 n38 (w64 (Int.fdiv (IntKind.wrap .u64 (w64 (n38 + n39))) (2 ^ (min (Int.toNat 1) 64)))) es46 full47))) (k0 n38 es41 full42)
def f85_p30 (R : f85_T) (i35 n36 : Nat) (n37 : Int) (es40 : LL) (k0 : Int→(LL)→Bool→Prop) : Int×Int×(LL)×Bool→Prop:=LoopP fun x N=>(f85_p30b0 R) i35 n36 n37 x.1 x.2.1 es40 x.2.2.1 x.2.2.2 (fun n38 n39 es41 full42=>N (n38,n39,es41,full42)) k0
def f85_p42b0 (R : f85_T) (i51 n52 : Nat) (n53 n54 : Int) (es55 es56 : LL) (full57 : Bool) (N0 : Int→(LL)→Prop) (k0 : (LL)→Prop) : Prop:=bB (decide (n54 > n53)) ((0≤(w64 (n54 - 1))∧(w64 (n54 - 1)) < (n52 : Int))∧oI .i64 (ext (List.getD es55 (i51 + (Int.toNat (w64 (n54 - 1)))) []) 0 1) fun n58=>(0≤n54∧n54 < (n52 : Int))∧oI .i64 (ext (List.getD es55 (i51 + (Int.toNat n54)) []) 0 1) fun n59=>(0≤n54∧n54 < (n52 : Int))∧(i51 + (Int.toNat n54)) < es55.length∧(0≤(w64 (n54 - 1))∧(w64 (n54 - 1)) < (n52 : Int))∧(i51 + (Int.toNat (w64 (n54 - 1)))) < (List.set es55 (i51 + (Int.toNat n54)) (splice (List.getD es55 (i51 + (Int.toNat n54)) []) 0 [pI n58])).length∧N0 (w64 (n54 - 1)) (List.set (List.set es55 (i51 + (Int.toNat n54)) (splice (List.getD es55 (i51 + (Int.toNat n54)) []) 0 [pI n58])) (i51 + (Int.toNat (w64 (n54 - 1)))) (splice (List.getD (List.set es55 (i51 + (Int.toNat n54)) (splice (List.getD es55 (i51 + (Int.toNat n54)) []) 0 [pI n58])) (i51 + (Int.toNat (w64 (n54 - 1)))) []) 0 [pI n59]))) (k0 es55)
def f85_p42 (R : f85_T) (i51 n52 : Nat) (n53 : Int) (es56 : LL) (full57 : Bool) (k0 : (LL)→Prop) : Int×(LL)→Prop:=LoopP fun x N=>(f85_p42b0 R) i51 n52 n53 x.1 x.2 es56 full57 (fun n54 es55=>N (n54,es55)) k0
def f85_p66b0 (R : f85_T) (i73 n74 : Nat) (n75 n76 : Int) (n77 n78 : Int) (n79 n80 : Int) (n81 n82 : Int) (es83 es84 : LL) (full85 : Bool) (N0 : Int→Int→(LL)→Bool→Prop) (k0 : Int→(LL)→Bool→Prop) : Prop:=bB (decide (n80 < n81)) (0≤(1 : Int)∧(0≤(w64 (n82 - (w64 (Int.fdiv (IntKind.wrap .u64 (w64 (n80 + n81))) (2 ^ (min (Int.toNat 1) 64))))))∧(w64 (n82 - (w64 (Int.fdiv (IntKind.wrap .u64 (w64 (n80 + n81))) (2 ^ (min (Int.toNat 1) 64)))))) < (n74 : Int))∧oI .i64 (ext (List.getD es83 (i73 + (Int.toNat (w64 (n82 - (w64 (Int.fdiv (IntKind.wrap .u64 (w64 (n80 + n81))) (2 ^ (min (Int.toNat 1) 64)))))))) []) 0 1) fun n86=>(0≤(w64 (Int.fdiv (IntKind.wrap .u64 (w64 (n80 + n81))) (2 ^ (min (Int.toNat 1) 64))))∧(w64 (Int.fdiv (IntKind.wrap .u64 (w64 (n80 + n81))) (2 ^ (min (Int.toNat 1) 64)))) < (n74 : Int))∧oI .i64 (ext (List.getD es83 (i73 + (Int.toNat (w64 (Int.fdiv (IntKind.wrap .u64 (w64 (n80 + n81))) (2 ^ (min (Int.toNat 1) 64)))))) []) 0 1) fun n87=>f41 n86 n87 es84 full85 (fun n88 es89 full90=>bB (!(decide (n88 < 0))) (N0 (w64 ((w64 (Int.fdiv (IntKind.wrap .u64 (w64 (n80 + n81))) (2 ^ (min (Int.toNat 1) 64)))) + 1)) n81 es89 full90) (N0 n80 (w64 (Int.fdiv (IntKind.wrap .u64 (w64 (n80 + n81))) (2 ^ (min (Int.toNat 1) 64)))) es89 full90))) (k0 n80 es84 full85)
def f85_p66 (R : f85_T) (i73 n74 : Nat) (n75 n76 : Int) (n77 n78 : Int) (n79 n82 : Int) (es83 : LL) (k0 : Int→(LL)→Bool→Prop) : Int×Int×(LL)×Bool→Prop:=LoopP fun x N=>(f85_p66b0 R) i73 n74 n75 n76 n77 n78 n79 x.1 x.2.1 n82 es83 x.2.2.1 x.2.2.2 (fun n80 n81 es84 full85=>N (n80,n81,es84,full85)) k0
def f85_p87 (R : f85_T) (i110 n111 : Nat) (n112 n113 n114 : Int) (es115 es116 : LL) (full117 : Bool) (k0 : (LL)→(LL)→Bool→Prop) : Prop:=bB (decide (n113 < n114)) (bB (decide (n114 < n112)) (R i110 n111 n113 n114 n112 es115 es116 full117 (fun es118 es119 full120=>k0 es118 es119 full120)) (k0 es115 es116 full117)) (k0 es115 es116 full117)
def f85_p83 (R : f85_T) (i97 n98 : Nat) (n99 n100 : Int) (n101 n102 n103 : Int) (es104 es105 : LL) (full106 : Bool) (k0 : (LL)→(LL)→Bool→Prop) : Prop:=bB (decide (n99 < n102)) (bB (decide (n102 < n101)) (R i97 n98 n99 n102 n101 es104 es105 full106 (fun es107 es108 full109=>(f85_p87 R) i97 n98 n100 n101 n103 es107 es108 full109 (fun es121 es122 full123=>k0 es121 es122 full123))) ((f85_p87 R) i97 n98 n100 n101 n103 es104 es105 full106 (fun es124 es125 full126=>k0 es124 es125 full126))) ((f85_p87 R) i97 n98 n100 n101 n103 es104 es105 full106 (fun es127 es128 full129=>k0 es127 es128 full129))
def f85_p65 (R : f85_T) (i61 n62 : Nat) (n63 n64 : Int) (n65 n66 : Int) (n67 n68 n69 : Int) (es70 es71 : LL) (full72 : Bool) (k0 : (LL)→(LL)→Bool→Prop) : Prop:=(f85_p66 R) i61 n62 n63 n64 n65 n66 n67 (w64 (n67 - 1)) es70 (fun n91 es92 full93=>bB (decide (n91 < n64)) (bB (decide (n64 < (w64 (n67 - n91)))) (f94 i61 n62 n91 n64 (w64 (n67 - n91)) es70 es92 full93 (fun es94 es95 full96=>(f85_p83 R) i61 n62 n63 n65 n66 n91 (w64 (n67 - n91)) es94 es95 full96 (fun es130 es131 full132=>k0 es130 es131 full132))) ((f85_p83 R) i61 n62 n63 n65 n66 n91 (w64 (n67 - n91)) es70 es92 full93 (fun es133 es134 full135=>k0 es133 es134 full135))) ((f85_p83 R) i61 n62 n63 n65 n66 n91 (w64 (n67 - n91)) es70 es92 full93 (fun es136 es137 full138=>k0 es136 es137 full138))) (n68,n69,es71,full72)
def f85_d (R : f85_T) (i1 n2 : Nat) (n3 n4 n5 : Int) (es6 es7 : LL) (full8 : Bool) (k0 : (LL)→(LL)→Bool→Prop) : Prop:=bB ((w64 (n4 - n3)) == 1) ((f85_p6 R) i1 n2 n3 es6 (fun n22 es23 full24=>(f85_p18 R) i1 n2 n22 es23 full24 (fun es34=>k0 es34 es23 full24) (n3,es6)) (n4,n5,es7,full8)) (bB ((w64 (n5 - n4)) == 1) ((f85_p30 R) i1 n2 n4 es6 (fun n48 es49 full50=>(f85_p42 R) i1 n2 n48 es49 full50 (fun es60=>k0 es60 es49 full50) (n4,es6)) (n3,n4,es7,full8)) (0≤(1 : Int)∧bB (decide (n4 > (w64 (Int.fdiv (IntKind.wrap .u64 (w64 (n3 + n5))) (2 ^ (min (Int.toNat 1) 64)))))) ((f85_p65 R) i1 n2 n3 n4 n5 (w64 (Int.fdiv (IntKind.wrap .u64 (w64 (n3 + n5))) (2 ^ (min (Int.toNat 1) 64)))) (w64 ((w64 (Int.fdiv (IntKind.wrap .u64 (w64 (n3 + n5))) (2 ^ (min (Int.toNat 1) 64)))) + n4)) (w64 ((w64 ((w64 (Int.fdiv (IntKind.wrap .u64 (w64 (n3 + n5))) (2 ^ (min (Int.toNat 1) 64)))) + n4)) - n5)) (w64 (Int.fdiv (IntKind.wrap .u64 (w64 (n3 + n5))) (2 ^ (min (Int.toNat 1) 64)))) es6 es7 full8 (fun es139 es140 full141=>k0 es139 es140 full141)) ((f85_p65 R) i1 n2 n3 n4 n5 (w64 (Int.fdiv (IntKind.wrap .u64 (w64 (n3 + n5))) (2 ^ (min (Int.toNat 1) 64)))) (w64 ((w64 (Int.fdiv (IntKind.wrap .u64 (w64 (n3 + n5))) (2 ^ (min (Int.toNat 1) 64)))) + n4)) n3 n4 es6 es7 full8 (fun es142 es143 full144=>k0 es142 es143 full144))))
def f85_n : Nat→f85_T:=fun n=>Nat.rec (motive:=fun _=>f85_T) (fun _ _ _ _ _ _ _ _ _=>False) (fun _ ih=>f85_d ih) n
structure f85 (i1 n2 : Nat) (n3 n4 n5 : Int) (es6 es7 : LL) (full8 : Bool) (k0 : (LL)→(LL)→Bool→Prop) : Prop where
  run : ∃ n,f85_n n i1 n2 n3 n4 n5 es6 es7 full8 k0
def f85_p6L (R : f85_T) : Told:=fun s K=>match s with
  | ⟨tm,hp⟩=>getS [.v (.one (.ref 0)),.v (.one (.int .i64)),.skip 2,.v (.clo 41 [] [.ptr 1 0 0]),.skip 5,.v (.one (.int .i64)),.v (.one (.int .i64)),.skip 208] [.vec 1 true,.box [.sl 15]] tm hp fun (xx : ((Nat×Nat)×(Int×(Unit×((Unit×(Unit×Unit))×(Unit×(Int×(Int×(Unit×Unit))))))))) (yy : ((LL)×(((LL×Bool)×Unit)×Unit)))=>(f85_p6 R) xx.1.1 xx.1.2 xx.2.1 yy.1 (fun n0_0 es0_1 full0_2=>K (.exit 0) ⟨mkS 220 [(0,.w (.one (.ref 0 xx.1.1 xx.1.2))),(1,I xx.2.1),(10,I n0_0)],[.vec 1 yy.1 true,.box [.p (.sl 15 es0_1 full0_2)]]⟩) (xx.2.2.2.2.2.1,xx.2.2.2.2.2.2.1,yy.2.1.1.1,yy.2.1.1.2)
def f85_p18L (R : f85_T) : Told:=fun s K=>match s with
  | ⟨tm,hp⟩=>getS [.v (.one (.ref 0)),.skip 9,.v (.one (.int .i64)),.skip 2,.v (.one (.int .i64)),.skip 206] [.vec 1 true,.box [.sl 15]] tm hp fun (xx : ((Nat×Nat)×(Unit×(Int×(Unit×(Int×(Unit×Unit))))))) (yy : ((LL)×(((LL×Bool)×Unit)×Unit)))=>(f85_p18 R) xx.1.1 xx.1.2 xx.2.2.1 yy.2.1.1.1 yy.2.1.1.2 (fun es0_3=>K (.exit 2) ⟨mkS 220 [],[.vec 1 es0_3 true,.box [.p (.sl 15 yy.2.1.1.1 yy.2.1.1.2)]]⟩) (xx.2.2.2.2.1,yy.1)
def f85_p30L (R : f85_T) : Told:=fun s K=>match s with
  | ⟨tm,hp⟩=>getS [.v (.one (.ref 0)),.skip 1,.v (.one (.int .i64)),.skip 1,.v (.clo 41 [] [.ptr 1 0 0]),.skip 9,.v (.one (.int .i64)),.v (.one (.int .i64)),.skip 204] [.vec 1 true,.box [.sl 15]] tm hp fun (xx : ((Nat×Nat)×(Unit×(Int×(Unit×((Unit×(Unit×Unit))×(Unit×(Int×(Int×(Unit×Unit)))))))))) (yy : ((LL)×(((LL×Bool)×Unit)×Unit)))=>(f85_p30 R) xx.1.1 xx.1.2 xx.2.2.1 yy.1 (fun n0_4 es0_5 full0_6=>K (.exit 4) ⟨mkS 220 [(0,.w (.one (.ref 0 xx.1.1 xx.1.2))),(2,I xx.2.2.1),(14,I n0_4)],[.vec 1 yy.1 true,.box [.p (.sl 15 es0_5 full0_6)]]⟩) (xx.2.2.2.2.2.2.1,xx.2.2.2.2.2.2.2.1,yy.2.1.1.1,yy.2.1.1.2)
def f85_p42L (R : f85_T) : Told:=fun s K=>match s with
  | ⟨tm,hp⟩=>getS [.v (.one (.ref 0)),.skip 13,.v (.one (.int .i64)),.skip 2,.v (.one (.int .i64)),.skip 202] [.vec 1 true,.box [.sl 15]] tm hp fun (xx : ((Nat×Nat)×(Unit×(Int×(Unit×(Int×(Unit×Unit))))))) (yy : ((LL)×(((LL×Bool)×Unit)×Unit)))=>(f85_p42 R) xx.1.1 xx.1.2 xx.2.2.1 yy.2.1.1.1 yy.2.1.1.2 (fun es0_7=>K (.exit 6) ⟨mkS 220 [],[.vec 1 es0_7 true,.box [.p (.sl 15 yy.2.1.1.1 yy.2.1.1.2)]]⟩) (xx.2.2.2.2.1,yy.1)
def f85_p66L (R : f85_T) : Told:=fun s K=>match s with
  | ⟨tm,hp⟩=>getS [.v (.one (.ref 0)),.v (.one (.int .i64)),.v (.one (.int .i64)),.v (.one (.int .i64)),.v (.clo 41 [] [.ptr 1 0 0]),.skip 13,.v (.one (.int .i64)),.v (.one (.int .i64)),.v (.one (.int .i64)),.v (.one (.int .i64)),.v (.one (.int .i64)),.skip 197] [.vec 1 true,.box [.sl 15]] tm hp fun (xx : ((Nat×Nat)×(Int×(Int×(Int×((Unit×(Unit×Unit))×(Unit×(Int×(Int×(Int×(Int×(Int×(Unit×Unit))))))))))))) (yy : ((LL)×(((LL×Bool)×Unit)×Unit)))=>(f85_p66 R) xx.1.1 xx.1.2 xx.2.1 xx.2.2.1 xx.2.2.2.1 xx.2.2.2.2.2.2.1 xx.2.2.2.2.2.2.2.1 xx.2.2.2.2.2.2.2.2.2.2.1 yy.1 (fun n0_8 es0_9 full0_10=>K (.exit 8) ⟨mkS 220 [(0,.w (.one (.ref 0 xx.1.1 xx.1.2))),(1,I xx.2.1),(2,I xx.2.2.1),(3,I xx.2.2.2.1),(4,.w (.one (.clo 41 [] [.ptr 1 0 0]))),(18,I xx.2.2.2.2.2.2.1),(19,I xx.2.2.2.2.2.2.2.1),(20,I n0_8)],[.vec 1 yy.1 true,.box [.p (.sl 15 es0_9 full0_10)]]⟩) (xx.2.2.2.2.2.2.2.2.1,xx.2.2.2.2.2.2.2.2.2.1,yy.2.1.1.1,yy.2.1.1.2)
def f85_p87L (R : f85_T) : Told:=fun s K=>match s with
  | ⟨tm,hp⟩=>getS [.v (.one (.ref 0)),.skip 2,.v (.one (.int .i64)),.v (.clo 41 [] [.ptr 1 0 0]),.skip 13,.v (.one (.int .i64)),.skip 5,.v (.one (.int .i64)),.skip 195] [.vec 1 true,.box [.sl 15]] tm hp fun (xx : ((Nat×Nat)×(Unit×(Int×((Unit×(Unit×Unit))×(Unit×(Int×(Unit×(Int×(Unit×Unit)))))))))) (yy : ((LL)×(((LL×Bool)×Unit)×Unit)))=>(f85_p87 R) xx.1.1 xx.1.2 xx.2.2.1 xx.2.2.2.2.2.1 xx.2.2.2.2.2.2.2.1 yy.1 yy.2.1.1.1 yy.2.1.1.2 (fun es0_11 es0_12 full0_13=>K .normal ⟨mkS 220 [],[.vec 1 es0_11 true,.box [.p (.sl 15 es0_12 full0_13)]]⟩)
def f85_p83L (R : f85_T) : Told:=fun s K=>match s with
  | ⟨tm,hp⟩=>getS [.v (.one (.ref 0)),.v (.one (.int .i64)),.skip 1,.v (.one (.int .i64)),.v (.clo 41 [] [.ptr 1 0 0]),.skip 13,.v (.one (.int .i64)),.skip 1,.v (.one (.int .i64)),.skip 3,.v (.one (.int .i64)),.skip 195] [.vec 1 true,.box [.sl 15]] tm hp fun (xx : ((Nat×Nat)×(Int×(Unit×(Int×((Unit×(Unit×Unit))×(Unit×(Int×(Unit×(Int×(Unit×(Int×(Unit×Unit))))))))))))) (yy : ((LL)×(((LL×Bool)×Unit)×Unit)))=>(f85_p83 R) xx.1.1 xx.1.2 xx.2.1 xx.2.2.2.1 xx.2.2.2.2.2.2.1 xx.2.2.2.2.2.2.2.2.1 xx.2.2.2.2.2.2.2.2.2.2.1 yy.1 yy.2.1.1.1 yy.2.1.1.2 (fun es0_14 es0_15 full0_16=>K .normal ⟨mkS 220 [],[.vec 1 es0_14 true,.box [.p (.sl 15 es0_15 full0_16)]]⟩)
def f85_p65L (R : f85_T) : Told:=fun s K=>match s with
  | ⟨tm,hp⟩=>getS [.v (.one (.ref 0)),.v (.one (.int .i64)),.v (.one (.int .i64)),.v (.one (.int .i64)),.v (.clo 41 [] [.ptr 1 0 0]),.skip 13,.v (.one (.int .i64)),.v (.one (.int .i64)),.v (.one (.int .i64)),.v (.one (.int .i64)),.skip 198] [.vec 1 true,.box [.sl 15]] tm hp fun (xx : ((Nat×Nat)×(Int×(Int×(Int×((Unit×(Unit×Unit))×(Unit×(Int×(Int×(Int×(Int×(Unit×Unit)))))))))))) (yy : ((LL)×(((LL×Bool)×Unit)×Unit)))=>(f85_p65 R) xx.1.1 xx.1.2 xx.2.1 xx.2.2.1 xx.2.2.2.1 xx.2.2.2.2.2.2.1 xx.2.2.2.2.2.2.2.1 xx.2.2.2.2.2.2.2.2.1 xx.2.2.2.2.2.2.2.2.2.1 yy.1 yy.2.1.1.1 yy.2.1.1.2 (fun es0_17 es0_18 full0_19=>K .normal ⟨mkS 220 [],[.vec 1 es0_17 true,.box [.p (.sl 15 es0_18 full0_19)]]⟩)
def f85_tab (R : f85_T) : List (Nat×Told):=[(6,(f85_p6L R)),(18,(f85_p18L R)),(30,(f85_p30L R)),(42,(f85_p42L R)),(66,(f85_p66L R)),(87,(f85_p87L R)),(83,(f85_p83L R)),(65,(f85_p65L R))]
def f85_GR (R : f85_T) : List TV→List Entry→(TV→List Entry→Prop)→Prop:=fun tm hp K=>getS [.v (.one (.ref 0)),.v (.one (.int .i64)),.v (.one (.int .i64)),.v (.one (.int .i64)),.v (.clo 41 [] [.ptr 1 0 0])] [.vec 1 true,.box [.sl 15]] tm hp fun (xx : ((Nat×Nat)×(Int×(Int×(Int×((Unit×(Unit×Unit))×Unit)))))) (yy : ((LL)×(((LL×Bool)×Unit)×Unit)))=>R xx.1.1 xx.1.2 xx.2.1 xx.2.2.1 xx.2.2.2.1 yy.1 yy.2.1.1.1 yy.2.1.1.2 (fun es0_20 es0_21 full0_22=>K undefT [.vec 1 es0_20 true,.box [.p (.sl 15 es0_21 full0_22)]])
def f85_call (R : f85_T) : FuncId→List TV→List Entry→(TV→List Entry→Prop)→Prop:=addCall 85 (f85_GR R) (addCall 94 f94_G (addCall 41 f41_G (noCalls)))
def f85_C (R : f85_T) : Ctx:={ ty:=tyOf tab,glob:=glob,byRef:=byRef,keep:=fun k i=>lookN [] (lookN [] ([(6,[(0,[0,1,4,10,11]),(2,[]),(3,[0,1,10])]),(18,[(0,[0,10,13]),(2,[]),(5,[])]),(30,[(0,[0,2,4,14,15]),(2,[]),(7,[0,2,14])]),(42,[(0,[0,14,17]),(2,[]),(9,[])]),(66,[(0,[0,1,2,3,4,18,19,20,21,22]),(2,[]),(11,[0,1,2,3,4,18,19,20])]),(87,[(0,[0,3,4,18,24]),(1,[]),(2,[])]),(83,[(0,[0,1,3,4,18,20,24]),(1,[]),(2,[])]),(65,[(0,[0,1,2,3,4,18,19,20,21]),(1,[]),(2,[])])] : List (Nat×List (Nat×List Nat))) k) i,late:=lookN [] ([] : List (Nat×List Nat)),nref:=lookN [] ([] : List (Nat×List Nat)),nbox:=lookN [] ([] : List (Nat×List (Nat×Nat))),take:=[],rnil:=true,m:=2,fz:=false,loops:=lookL (f85_tab R),call:=(f85_call R) }
def f85_p6_mk (i9 n10 : Nat) (n11 : Int) (es14 : LL) (x : Int×Int×(LL)×Bool) : St:=⟨mkS 220 [(0,.w (.one (.ref 0 i9 n10))),(1,I n11),(4,.w (.one (.clo 41 [] [.ptr 1 0 0]))),(10,I x.1),(11,I x.2.1)],[.vec 1 es14 true,.box [.p (.sl 15 x.2.2.1 x.2.2.2)]]⟩
theorem f85_p6e0 (R : f85_T) (i_31 n_32 : Nat) (n_33 n_34 n_35 : Int) (es_36 es_37 : LL) (full_38 : Bool) (N : St→Prop) (K : TExit→St→Prop) : ((f85_p6b0 R) i_31 n_32 n_33 n_34 n_35 es_36 es_37 full_38 (fun z3 z4 z6 z7=>N (f85_p6_mk i_31 n_32 n_33 es_36 (z3,z4,z6,z7))) (fun n0_39 es0_40 full0_41=>K (.exit 0) ⟨mkS 220 [(0,.w (.one (.ref 0 i_31 n_32))),(1,I n_33),(10,I n0_39)],[.vec 1 es_36 true,.box [.p (.sl 15 es0_40 full0_41)]]⟩)) = execT (f85_C R) (bd Tryd.f85 0) (f85_p6_mk i_31 n_32 n_33 es_36 (n_34,n_35,es_37,full_38)) (loopK N (normK (f85_C R) 6) fun e s=>K e (normOut (f85_C R) 6 e s)):=by kernel_rfl
def f85_p18_mk (i25 n26 : Nat) (n27 : Int) (es30 : LL) (full31 : Bool) (x : Int×(LL)) : St:=⟨mkS 220 [(0,.w (.one (.ref 0 i25 n26))),(10,I n27),(13,I x.1)],[.vec 1 x.2 true,.box [.p (.sl 15 es30 full31)]]⟩
theorem f85_p18e0 (R : f85_T) (i_49 n_50 : Nat) (n_51 n_52 : Int) (es_53 es_54 : LL) (full_55 : Bool) (N : St→Prop) (K : TExit→St→Prop) : ((f85_p18b0 R) i_49 n_50 n_51 n_52 es_53 es_54 full_55 (fun z3 z4=>N (f85_p18_mk i_49 n_50 n_51 es_54 full_55 (z3,z4))) (fun es0_56=>K (.exit 2) ⟨mkS 220 [],[.vec 1 es0_56 true,.box [.p (.sl 15 es_54 full_55)]]⟩)) = execT (f85_C R) (bd Tryd.f85 1) (f85_p18_mk i_49 n_50 n_51 es_54 full_55 (n_52,es_53)) (loopK N (normK (f85_C R) 18) fun e s=>K e (normOut (f85_C R) 18 e s)):=by kernel_rfl
def f85_p30_mk (i35 n36 : Nat) (n37 : Int) (es40 : LL) (x : Int×Int×(LL)×Bool) : St:=⟨mkS 220 [(0,.w (.one (.ref 0 i35 n36))),(2,I n37),(4,.w (.one (.clo 41 [] [.ptr 1 0 0]))),(14,I x.1),(15,I x.2.1)],[.vec 1 es40 true,.box [.p (.sl 15 x.2.2.1 x.2.2.2)]]⟩
theorem f85_p30e0 (R : f85_T) (i_65 n_66 : Nat) (n_67 n_68 n_69 : Int) (es_70 es_71 : LL) (full_72 : Bool) (N : St→Prop) (K : TExit→St→Prop) : ((f85_p30b0 R) i_65 n_66 n_67 n_68 n_69 es_70 es_71 full_72 (fun z3 z4 z6 z7=>N (f85_p30_mk i_65 n_66 n_67 es_70 (z3,z4,z6,z7))) (fun n0_73 es0_74 full0_75=>K (.exit 4) ⟨mkS 220 [(0,.w (.one (.ref 0 i_65 n_66))),(2,I n_67),(14,I n0_73)],[.vec 1 es_70 true,.box [.p (.sl 15 es0_74 full0_75)]]⟩)) = execT (f85_C R) (bd Tryd.f85 2) (f85_p30_mk i_65 n_66 n_67 es_70 (n_68,n_69,es_71,full_72)) (loopK N (normK (f85_C R) 30) fun e s=>K e (normOut (f85_C R) 30 e s)):=by kernel_rfl
def f85_p42_mk (i51 n52 : Nat) (n53 : Int) (es56 : LL) (full57 : Bool) (x : Int×(LL)) : St:=⟨mkS 220 [(0,.w (.one (.ref 0 i51 n52))),(14,I n53),(17,I x.1)],[.vec 1 x.2 true,.box [.p (.sl 15 es56 full57)]]⟩
theorem f85_p42e0 (R : f85_T) (i_83 n_84 : Nat) (n_85 n_86 : Int) (es_87 es_88 : LL) (full_89 : Bool) (N : St→Prop) (K : TExit→St→Prop) : ((f85_p42b0 R) i_83 n_84 n_85 n_86 es_87 es_88 full_89 (fun z3 z4=>N (f85_p42_mk i_83 n_84 n_85 es_88 full_89 (z3,z4))) (fun es0_90=>K (.exit 6) ⟨mkS 220 [],[.vec 1 es0_90 true,.box [.p (.sl 15 es_88 full_89)]]⟩)) = execT (f85_C R) (bd Tryd.f85 3) (f85_p42_mk i_83 n_84 n_85 es_88 full_89 (n_86,es_87)) (loopK N (normK (f85_C R) 42) fun e s=>K e (normOut (f85_C R) 42 e s)):=by kernel_rfl
def f85_p66_mk (i73 n74 : Nat) (n75 n76 : Int) (n77 n78 : Int) (n79 n82 : Int) (es83 : LL) (x : Int×Int×(LL)×Bool) : St:=⟨mkS 220 [(0,.w (.one (.ref 0 i73 n74))),(1,I n75),(2,I n76),(3,I n77),(4,.w (.one (.clo 41 [] [.ptr 1 0 0]))),(18,I n78),(19,I n79),(20,I x.1),(21,I x.2.1),(22,I n82)],[.vec 1 es83 true,.box [.p (.sl 15 x.2.2.1 x.2.2.2)]]⟩
theorem f85_p66e0 (R : f85_T) (i_104 n_105 : Nat) (n_106 n_107 : Int) (n_108 n_109 : Int) (n_110 n_111 : Int) (n_112 n_113 : Int) (es_114 es_115 : LL) (full_116 : Bool) (N : St→Prop) (K : TExit→St→Prop) : ((f85_p66b0 R) i_104 n_105 n_106 n_107 n_108 n_109 n_110 n_111 n_112 n_113 es_114 es_115 full_116 (fun z7 z8 z11 z12=>N (f85_p66_mk i_104 n_105 n_106 n_107 n_108 n_109 n_110 n_113 es_114 (z7,z8,z11,z12))) (fun n0_117 es0_118 full0_119=>K (.exit 8) ⟨mkS 220 [(0,.w (.one (.ref 0 i_104 n_105))),(1,I n_106),(2,I n_107),(3,I n_108),(4,.w (.one (.clo 41 [] [.ptr 1 0 0]))),(18,I n_109),(19,I n_110),(20,I n0_117)],[.vec 1 es_114 true,.box [.p (.sl 15 es0_118 full0_119)]]⟩)) = execT (f85_C R) (bd Tryd.f85 4) (f85_p66_mk i_104 n_105 n_106 n_107 n_108 n_109 n_110 n_113 es_114 (n_111,n_112,es_115,full_116)) (loopK N (normK (f85_C R) 66) fun e s=>K e (normOut (f85_C R) 66 e s)):=by kernel_rfl
theorem f85_p87e0 (R : f85_T) (i_120 n_121 : Nat) (n_122 n_123 n_124 : Int) (es_125 es_126 : LL) (full_127 : Bool) (K : TExit→St→Prop) : ((f85_p87 R) i_120 n_121 n_122 n_123 n_124 es_125 es_126 full_127 (fun es0_128 es0_129 full0_130=>K .normal ⟨mkS 220 [],[.vec 1 es0_128 true,.box [.p (.sl 15 es0_129 full0_130)]]⟩)) = execT (f85_C R) (nthC (tails (bodyOf Tryd.f85)) 44) ⟨mkS 220 [(0,.w (.one (.ref 0 i_120 n_121))),(3,I n_122),(4,.w (.one (.clo 41 [] [.ptr 1 0 0]))),(18,I n_123),(24,I n_124)],[.vec 1 es_125 true,.box [.p (.sl 15 es_126 full_127)]]⟩ (fun e s=>K e (normOut (f85_C R) 87 e s)):=by kernel_rfl
theorem f85_p83e0 (R : f85_T) (i_131 n_132 : Nat) (n_133 n_134 : Int) (n_135 n_136 n_137 : Int) (es_138 es_139 : LL) (full_140 : Bool) (K : TExit→St→Prop) : ((f85_p83 R) i_131 n_132 n_133 n_134 n_135 n_136 n_137 es_138 es_139 full_140 (fun es0_141 es0_142 full0_143=>K .normal ⟨mkS 220 [],[.vec 1 es0_141 true,.box [.p (.sl 15 es0_142 full0_143)]]⟩)) = execT (f85_C R) (nthC (tails (bodyOf Tryd.f85)) 42) ⟨mkS 220 [(0,.w (.one (.ref 0 i_131 n_132))),(1,I n_133),(3,I n_134),(4,.w (.one (.clo 41 [] [.ptr 1 0 0]))),(18,I n_135),(20,I n_136),(24,I n_137)],[.vec 1 es_138 true,.box [.p (.sl 15 es_139 full_140)]]⟩ (fun e s=>K e (normOut (f85_C R) 83 e s)):=by kernel_rfl
theorem f85_p65e0 (R : f85_T) (i_144 n_145 : Nat) (n_146 n_147 : Int) (n_148 n_149 : Int) (n_150 n_151 n_152 : Int) (es_153 es_154 : LL) (full_155 : Bool) (K : TExit→St→Prop) : ((f85_p65 R) i_144 n_145 n_146 n_147 n_148 n_149 n_150 n_151 n_152 es_153 es_154 full_155 (fun es0_156 es0_157 full0_158=>K .normal ⟨mkS 220 [],[.vec 1 es0_156 true,.box [.p (.sl 15 es0_157 full0_158)]]⟩)) = execT (f85_C R) (nthC (tails (bodyOf Tryd.f85)) 31) ⟨mkS 220 [(0,.w (.one (.ref 0 i_144 n_145))),(1,I n_146),(2,I n_147),(3,I n_148),(4,.w (.one (.clo 41 [] [.ptr 1 0 0]))),(18,I n_149),(19,I n_150),(20,I n_151),(21,I n_152)],[.vec 1 es_153 true,.box [.p (.sl 15 es_154 full_155)]]⟩ (fun e s=>K e (normOut (f85_C R) 65 e s)):=by kernel_rfl
set_option maxHeartbeats 4000000 in
theorem f85_p6_ok (R : f85_T) : LoopOk (f85_C R) (bd Tryd.f85 0):=by
  refine LoopOk.of (f85_p6L R) (by kernel_rfl) fun σ K h=>?_
  have hk : loopKey (bd Tryd.f85 0) = 6:=by kernel_rfl
  rw [hk] at h ⊢
  generalize hs : normK (f85_C R) 6 σ = s at h
  obtain ⟨tm,hp⟩:=s
  unfold f85_p6L at h
  dsimp only at h
  obtain ⟨xx,yy,rfl,rfl,h⟩:=getS_elim h
  refine iter_of (f85_p6_mk xx.1.1 xx.1.2 xx.2.1 yy.1) (fun x N h=>?_) rounds _ σ (hs.trans (by kernel_rfl)) (LoopP.run h)
  obtain ⟨y0,y1,y2,y3⟩:=x
  rw [← (f85_p6e0 R) xx.1.1 xx.1.2 xx.2.1 y0 y1 yy.1 y2 y3 N K]
  exact h
set_option maxHeartbeats 4000000 in
theorem f85_p18_ok (R : f85_T) : LoopOk (f85_C R) (bd Tryd.f85 1):=by
  refine LoopOk.of (f85_p18L R) (by kernel_rfl) fun σ K h=>?_
  have hk : loopKey (bd Tryd.f85 1) = 18:=by kernel_rfl
  rw [hk] at h ⊢
  generalize hs : normK (f85_C R) 18 σ = s at h
  obtain ⟨tm,hp⟩:=s
  unfold f85_p18L at h
  dsimp only at h
  obtain ⟨xx,yy,rfl,rfl,h⟩:=getS_elim h
  refine iter_of (f85_p18_mk xx.1.1 xx.1.2 xx.2.2.1 yy.2.1.1.1 yy.2.1.1.2) (fun x N h=>?_) rounds _ σ (hs.trans (by kernel_rfl)) (LoopP.run h)
  obtain ⟨y0,y1⟩:=x
  rw [← (f85_p18e0 R) xx.1.1 xx.1.2 xx.2.2.1 y0 y1 yy.2.1.1.1 yy.2.1.1.2 N K]
  exact h
set_option maxHeartbeats 4000000 in
theorem f85_p30_ok (R : f85_T) : LoopOk (f85_C R) (bd Tryd.f85 2):=by
  refine LoopOk.of (f85_p30L R) (by kernel_rfl) fun σ K h=>?_
  have hk : loopKey (bd Tryd.f85 2) = 30:=by kernel_rfl
  rw [hk] at h ⊢
  generalize hs : normK (f85_C R) 30 σ = s at h
  obtain ⟨tm,hp⟩:=s
  unfold f85_p30L at h
  dsimp only at h
  obtain ⟨xx,yy,rfl,rfl,h⟩:=getS_elim h
  refine iter_of (f85_p30_mk xx.1.1 xx.1.2 xx.2.2.1 yy.1) (fun x N h=>?_) rounds _ σ (hs.trans (by kernel_rfl)) (LoopP.run h)
  obtain ⟨y0,y1,y2,y3⟩:=x
  rw [← (f85_p30e0 R) xx.1.1 xx.1.2 xx.2.2.1 y0 y1 yy.1 y2 y3 N K]
  exact h
set_option maxHeartbeats 4000000 in
theorem f85_p42_ok (R : f85_T) : LoopOk (f85_C R) (bd Tryd.f85 3):=by
  refine LoopOk.of (f85_p42L R) (by kernel_rfl) fun σ K h=>?_
  have hk : loopKey (bd Tryd.f85 3) = 42:=by kernel_rfl
  rw [hk] at h ⊢
  generalize hs : normK (f85_C R) 42 σ = s at h
  obtain ⟨tm,hp⟩:=s
  unfold f85_p42L at h
  dsimp only at h
  obtain ⟨xx,yy,rfl,rfl,h⟩:=getS_elim h
  refine iter_of (f85_p42_mk xx.1.1 xx.1.2 xx.2.2.1 yy.2.1.1.1 yy.2.1.1.2) (fun x N h=>?_) rounds _ σ (hs.trans (by kernel_rfl)) (LoopP.run h)
  obtain ⟨y0,y1⟩:=x
  rw [← (f85_p42e0 R) xx.1.1 xx.1.2 xx.2.2.1 y0 y1 yy.2.1.1.1 yy.2.1.1.2 N K]
  exact h
set_option maxHeartbeats 4000000 in
theorem f85_p66_ok (R : f85_T) : LoopOk (f85_C R) (bd Tryd.f85 4):=by
  refine LoopOk.of (f85_p66L R) (by kernel_rfl) fun σ K h=>?_
  have hk : loopKey (bd Tryd.f85 4) = 66:=by kernel_rfl
  rw [hk] at h ⊢
  generalize hs : normK (f85_C R) 66 σ = s at h
  obtain ⟨tm,hp⟩:=s
  unfold f85_p66L at h
  dsimp only at h
  obtain ⟨xx,yy,rfl,rfl,h⟩:=getS_elim h
  refine iter_of (f85_p66_mk xx.1.1 xx.1.2 xx.2.1 xx.2.2.1 xx.2.2.2.1 xx.2.2.2.2.2.2.1 xx.2.2.2.2.2.2.2.1 xx.2.2.2.2.2.2.2.2.2.2.1 yy.1) (fun x N h=>?_) rounds _ σ (hs.trans (by kernel_rfl)) (LoopP.run h)
  obtain ⟨y0,y1,y2,y3⟩:=x
  rw [← (f85_p66e0 R) xx.1.1 xx.1.2 xx.2.1 xx.2.2.1 xx.2.2.2.1 xx.2.2.2.2.2.2.1 xx.2.2.2.2.2.2.2.1 y0 y1 xx.2.2.2.2.2.2.2.2.2.2.1 yy.1 y2 y3 N K]
  exact h
set_option maxHeartbeats 4000000 in
theorem f85_p87_ok (R : f85_T) : TailOk (f85_C R) (nthC (tails (bodyOf Tryd.f85)) 44):=by
  refine TailOk.of (f85_p87L R) (by kernel_rfl) fun σ K h=>?_
  have hk : joinKey (nthC (tails (bodyOf Tryd.f85)) 44) = 87:=by kernel_rfl
  rw [hk] at h ⊢
  generalize hs : normK (f85_C R) 87 σ = s at h
  obtain ⟨tm,hp⟩:=s
  unfold f85_p87L at h
  dsimp only at h
  obtain ⟨xx,yy,rfl,rfl,h⟩:=getS_elim h
  have q : normK (f85_C R) 87 σ = (⟨mkS 220 [(0,.w (.one (.ref 0 xx.1.1 xx.1.2))),(3,I xx.2.2.1),(4,.w (.one (.clo 41 [] [.ptr 1 0 0]))),(18,I xx.2.2.2.2.2.1),(24,I xx.2.2.2.2.2.2.2.1)],[.vec 1 yy.1 true,.box [.p (.sl 15 yy.2.1.1.1 yy.2.1.1.2)]]⟩ : St):=hs.trans (by kernel_rfl)
  rw [← hs,q,← (f85_p87e0 R) xx.1.1 xx.1.2 xx.2.2.1 xx.2.2.2.2.2.1 xx.2.2.2.2.2.2.2.1 yy.1 yy.2.1.1.1 yy.2.1.1.2 K]
  exact h
set_option maxHeartbeats 4000000 in
theorem f85_p83_ok (R : f85_T) : TailOk (f85_C R) (nthC (tails (bodyOf Tryd.f85)) 42):=by
  refine TailOk.of (f85_p83L R) (by kernel_rfl) fun σ K h=>?_
  have hk : joinKey (nthC (tails (bodyOf Tryd.f85)) 42) = 83:=by kernel_rfl
  rw [hk] at h ⊢
  generalize hs : normK (f85_C R) 83 σ = s at h
  obtain ⟨tm,hp⟩:=s
  unfold f85_p83L at h
  dsimp only at h
  obtain ⟨xx,yy,rfl,rfl,h⟩:=getS_elim h
  have q : normK (f85_C R) 83 σ = (⟨mkS 220 [(0,.w (.one (.ref 0 xx.1.1 xx.1.2))),(1,I xx.2.1),(3,I xx.2.2.2.1),(4,.w (.one (.clo 41 [] [.ptr 1 0 0]))),(18,I xx.2.2.2.2.2.2.1),(20,I xx.2.2.2.2.2.2.2.2.1),(24,I xx.2.2.2.2.2.2.2.2.2.2.1)],[.vec 1 yy.1 true,.box [.p (.sl 15 yy.2.1.1.1 yy.2.1.1.2)]]⟩ : St):=hs.trans (by kernel_rfl)
  rw [← hs,q,← (f85_p83e0 R) xx.1.1 xx.1.2 xx.2.1 xx.2.2.2.1 xx.2.2.2.2.2.2.1 xx.2.2.2.2.2.2.2.2.1 xx.2.2.2.2.2.2.2.2.2.2.1 yy.1 yy.2.1.1.1 yy.2.1.1.2 K]
  exact h
set_option maxHeartbeats 4000000 in
theorem f85_p65_ok (R : f85_T) : TailOk (f85_C R) (nthC (tails (bodyOf Tryd.f85)) 31):=by
  refine TailOk.of (f85_p65L R) (by kernel_rfl) fun σ K h=>?_
  have hk : joinKey (nthC (tails (bodyOf Tryd.f85)) 31) = 65:=by kernel_rfl
  rw [hk] at h ⊢
  generalize hs : normK (f85_C R) 65 σ = s at h
  obtain ⟨tm,hp⟩:=s
  unfold f85_p65L at h
  dsimp only at h
  obtain ⟨xx,yy,rfl,rfl,h⟩:=getS_elim h
  have q : normK (f85_C R) 65 σ = (⟨mkS 220 [(0,.w (.one (.ref 0 xx.1.1 xx.1.2))),(1,I xx.2.1),(2,I xx.2.2.1),(3,I xx.2.2.2.1),(4,.w (.one (.clo 41 [] [.ptr 1 0 0]))),(18,I xx.2.2.2.2.2.2.1),(19,I xx.2.2.2.2.2.2.2.1),(20,I xx.2.2.2.2.2.2.2.2.1),(21,I xx.2.2.2.2.2.2.2.2.2.1)],[.vec 1 yy.1 true,.box [.p (.sl 15 yy.2.1.1.1 yy.2.1.1.2)]]⟩ : St):=hs.trans (by kernel_rfl)
  rw [← hs,q,← (f85_p65e0 R) xx.1.1 xx.1.2 xx.2.1 xx.2.2.1 xx.2.2.2.1 xx.2.2.2.2.2.2.1 xx.2.2.2.2.2.2.2.1 xx.2.2.2.2.2.2.2.2.1 xx.2.2.2.2.2.2.2.2.2.1 yy.1 yy.2.1.1.1 yy.2.1.1.2 K]
  exact h
def f85_G0 : List TV→List Entry→(TV→List Entry→Prop)→Prop:=fun tm hp K=>getS [.v (.one (.ref 0)),.v (.one (.int .i64)),.v (.one (.int .i64)),.v (.one (.int .i64)),.v (.clo 41 [] [.ptr 1 0 0])] [.vec 1 true,.box [.sl 15]] tm hp fun (xx : ((Nat×Nat)×(Int×(Int×(Int×((Unit×(Unit×Unit))×Unit)))))) (yy : ((LL)×(((LL×Bool)×Unit)×Unit)))=>f85 xx.1.1 xx.1.2 xx.2.1 xx.2.2.1 xx.2.2.2.1 yy.1 yy.2.1.1.1 yy.2.1.1.2 (fun es0_20 es0_21 full0_22=>K undefT [.vec 1 es0_20 true,.box [.p (.sl 15 es0_21 full0_22)]])
theorem f85_eq (R : f85_T) (i_159 n_160 : Nat) (n_161 n_162 n_163 : Int) (es_164 es_165 : LL) (full_166 : Bool) (K : TV→List Entry→Prop) : ((f85_d R) i_159 n_160 n_161 n_162 n_163 es_164 es_165 full_166 (fun es0_20 es0_21 full0_22=>K undefT [.vec 1 es0_20 true,.box [.p (.sl 15 es0_21 full0_22)]])) = funcT (f85_C R) Tryd.f85 [.w (.one (.ref 0 i_159 n_160)),I n_161,I n_162,I n_163,.w (.one (.clo 41 [] [.ptr 1 0 0]))] [.vec 1 es_164 true,.box [.p (.sl 15 es_165 full_166)]] K:=by kernel_rfl
set_option maxHeartbeats 4000000 in
theorem f85_step (R : f85_T) (hR : FnOk Tryd.prog glob 85 (f85_GR R)) : FnOk Tryd.prog glob 85 (f85_GR (f85_d R)):=by
  refine FnOk.of_text (C:=(f85_C R)) tab_ok.ok (Known.add hR (Known.add f94_G_ok (Known.add f41_G_ok (Known.none)))) follows_ok (fn:=Tryd.f85) (by kernel_rfl) (by kernel_rfl) (by kernel_rfl) (fun c hc=>?_) fun tm hp K h=>?_
  · have e : c = bodyOf Tryd.f85:=Option.some.inj (hc.symm.trans (by kernel_rfl))
    subst e
    exact ⟨LoopsOk.of [bd Tryd.f85 0,bd Tryd.f85 1,bd Tryd.f85 2,bd Tryd.f85 3,bd Tryd.f85 4] (by kernel_rfl) ⟨(f85_p6_ok R),(f85_p18_ok R),(f85_p30_ok R),(f85_p42_ok R),(f85_p66_ok R),trivial⟩,TailsOk.of (tab:=(f85_tab R)) rfl [nthC (tails (bodyOf Tryd.f85)) 31,nthC (tails (bodyOf Tryd.f85)) 42,nthC (tails (bodyOf Tryd.f85)) 44] (by kernel_rfl) ⟨(f85_p65_ok R),(f85_p83_ok R),(f85_p87_ok R),trivial⟩⟩
  · unfold f85_GR at h
    obtain ⟨xx,yy,rfl,rfl,h⟩:=getS_elim h
    have e:=(f85_eq R xx.1.1 xx.1.2 xx.2.1 xx.2.2.1 xx.2.2.2.1 yy.1 yy.2.1.1.1 yy.2.1.1.2 K).trans (show _ = funcT (f85_C R) Tryd.f85 (mkR _ xx) (mkE _ yy) K by kernel_rfl)
    rw [← e]
    exact h
theorem f85_ok_n : ∀ n,FnOk Tryd.prog glob 85 (f85_GR (f85_n n))
  | 0=>fun tm hp K h=>by
    unfold f85_GR at h
    obtain ⟨xx,yy,rfl,rfl,h⟩:=getS_elim h
    exact False.elim h
  | n + 1=>f85_step _ (f85_ok_n n)
theorem f85_ok0 : FnOk Tryd.prog glob 85 f85_G0:=fun tm hp K h=>by
  unfold f85_G0 at h
  obtain ⟨xx,yy,rfl,rfl,h⟩:=getS_elim h
  obtain ⟨n,h⟩:=h.run
  have e : f85_GR (f85_n n) (mkR _ xx) (mkE _ yy) K = f85_n n xx.1.1 xx.1.2 xx.2.1 xx.2.2.1 xx.2.2.2.1 yy.1 yy.2.1.1.1 yy.2.1.1.2 (fun es0_20 es0_21 full0_22=>K undefT [.vec 1 es0_20 true,.box [.p (.sl 15 es0_21 full0_22)]]):=by kernel_rfl
  refine f85_ok_n n _ _ _ ?_
  rw [e]
  exact h
abbrev f85_G:=f85_G0
theorem f85_G_ok : FnOk Tryd.prog glob 85 f85_G:=f85_ok0
def f65_p4b0 (i7 n8 : Nat) (n9 n10 : Int) (n11 n12 : Int) (es13 es14 : LL) (full15 : Bool) (N0 : Int→Int→(LL)→(LL)→Bool→Prop) (k0 : Int→(LL)→(LL)→Bool→Prop) : Prop:=bB (decide (n12≤n9)) (f84 i7 n8 n11 n12 es13 es14 full15 (fun es16 es17 full18=>N0 n12 (w64 (n12 + n10)) es16 es17 full18)) (k0 n11 es13 es14 full15)
def f65_p4 (i7 n8 : Nat) (n9 n10 : Int) (k0 : Int→(LL)→(LL)→Bool→Prop) : Int×Int×(LL)×(LL)×Bool→Prop:=LoopP fun x N=>f65_p4b0 i7 n8 n9 n10 x.1 x.2.1 x.2.2.1 x.2.2.2.1 x.2.2.2.2 (fun n11 n12 es13 es14 full15=>N (n11,n12,es13,es14,full15)) k0
def f65_p18b0 (i33 n34 : Nat) (n35 n36 : Int) (n37 n38 : Int) (es39 es40 : LL) (full41 : Bool) (N0 : Int→Int→(LL)→(LL)→Bool→Prop) (k0 : Int→(LL)→(LL)→Bool→Prop) : Prop:=bB (decide (n38≤n35)) (f85 i33 n34 n37 (w64 (n37 + n36)) n38 es39 es40 full41 (fun es42 es43 full44=>N0 n38 (w64 (n38 + (w64 (2 * n36)))) es42 es43 full44)) (k0 n37 es39 es40 full41)
def f65_p18 (i33 n34 : Nat) (n35 n36 : Int) (k0 : Int→(LL)→(LL)→Bool→Prop) : Int×Int×(LL)×(LL)×Bool→Prop:=LoopP fun x N=>f65_p18b0 i33 n34 n35 n36 x.1 x.2.1 x.2.2.1 x.2.2.2.1 x.2.2.2.2 (fun n37 n38 es39 es40 full41=>N (n37,n38,es39,es40,full41)) k0
def f65_p14b0 (i26 n27 : Nat) (n28 n29 : Int) (es30 es31 : LL) (full32 : Bool) (N0 : Int→(LL)→(LL)→Bool→Prop) (k0 : (LL)→(LL)→Bool→Prop) : Prop:=bB (decide (n29 < n28)) (f65_p18 i26 n27 n28 n29 (fun n45 es46 es47 full48=>bB (decide ((w64 (n45 + n29)) < n28)) (f85 i26 n27 n45 (w64 (n45 + n29)) n28 es46 es47 full48 (fun es49 es50 full51=>N0 (w64 (n29 * 2)) es49 es50 full51)) (N0 (w64 (n29 * 2)) es46 es47 full48)) (0,(w64 (2 * n29)),es30,es31,full32)) (k0 es30 es31 full32)
def f65_p14 (i26 n27 : Nat) (n28 : Int) (k0 : (LL)→(LL)→Bool→Prop) : Int×(LL)×(LL)×Bool→Prop:=LoopP fun x N=>f65_p14b0 i26 n27 n28 x.1 x.2.1 x.2.2.1 x.2.2.2 (fun n29 es30 es31 full32=>N (n29,es30,es31,full32)) k0
def f65_d (i1 n2 : Nat) (n3 : Int) (es4 es5 : LL) (full6 : Bool) (k0 : (LL)→(LL)→Bool→Prop) : Prop:=f65_p4 i1 n2 n3 20 (fun n19 es20 es21 full22=>f84 i1 n2 n19 n3 es20 es21 full22 (fun es23 es24 full25=>f65_p14 i1 n2 n3 (fun es52 es53 full54=>k0 es52 es53 full54) (20,es23,es24,full25))) (0,20,es4,es5,full6)
structure f65 (i1 n2 : Nat) (n3 : Int) (es4 es5 : LL) (full6 : Bool) (k0 : (LL)→(LL)→Bool→Prop) : Prop where
  run : f65_d i1 n2 n3 es4 es5 full6 k0
def f65_p4L : Told:=fun s K=>match s with
  | ⟨tm,hp⟩=>getS [.v (.one (.ref 0)),.v (.one (.int .i64)),.v (.clo 41 [] [.ptr 1 0 0]),.skip 3,.v (.one (.int .i64)),.v (.one (.int .i64)),.v (.one (.int .i64)),.skip 54] [.vec 1 true,.box [.sl 15]] tm hp fun (xx : ((Nat×Nat)×(Int×((Unit×(Unit×Unit))×(Unit×(Int×(Int×(Int×(Unit×Unit))))))))) (yy : ((LL)×(((LL×Bool)×Unit)×Unit)))=>f65_p4 xx.1.1 xx.1.2 xx.2.1 xx.2.2.2.2.1 (fun n0_0 es0_1 es0_2 full0_3=>K (.exit 0) ⟨mkS 63 [(0,.w (.one (.ref 0 xx.1.1 xx.1.2))),(1,I xx.2.1),(2,.w (.one (.clo 41 [] [.ptr 1 0 0]))),(6,I xx.2.2.2.2.1),(7,I n0_0)],[.vec 1 es0_1 true,.box [.p (.sl 15 es0_2 full0_3)]]⟩) (xx.2.2.2.2.2.1,xx.2.2.2.2.2.2.1,yy.1,yy.2.1.1.1,yy.2.1.1.2)
def f65_p18L : Told:=fun s K=>match s with
  | ⟨tm,hp⟩=>getS [.v (.one (.ref 0)),.v (.one (.int .i64)),.v (.clo 41 [] [.ptr 1 0 0]),.skip 3,.v (.one (.int .i64)),.v (.one (.int .i64)),.v (.one (.int .i64)),.skip 54] [.vec 1 true,.box [.sl 15]] tm hp fun (xx : ((Nat×Nat)×(Int×((Unit×(Unit×Unit))×(Unit×(Int×(Int×(Int×(Unit×Unit))))))))) (yy : ((LL)×(((LL×Bool)×Unit)×Unit)))=>f65_p18 xx.1.1 xx.1.2 xx.2.1 xx.2.2.2.2.1 (fun n0_4 es0_5 es0_6 full0_7=>K (.exit 4) ⟨mkS 63 [(0,.w (.one (.ref 0 xx.1.1 xx.1.2))),(1,I xx.2.1),(2,.w (.one (.clo 41 [] [.ptr 1 0 0]))),(6,I xx.2.2.2.2.1),(7,I n0_4)],[.vec 1 es0_5 true,.box [.p (.sl 15 es0_6 full0_7)]]⟩) (xx.2.2.2.2.2.1,xx.2.2.2.2.2.2.1,yy.1,yy.2.1.1.1,yy.2.1.1.2)
def f65_p14L : Told:=fun s K=>match s with
  | ⟨tm,hp⟩=>getS [.v (.one (.ref 0)),.v (.one (.int .i64)),.v (.clo 41 [] [.ptr 1 0 0]),.skip 3,.v (.one (.int .i64)),.skip 56] [.vec 1 true,.box [.sl 15]] tm hp fun (xx : ((Nat×Nat)×(Int×((Unit×(Unit×Unit))×(Unit×(Int×(Unit×Unit))))))) (yy : ((LL)×(((LL×Bool)×Unit)×Unit)))=>f65_p14 xx.1.1 xx.1.2 xx.2.1 (fun es0_8 es0_9 full0_10=>K (.exit 2) ⟨mkS 63 [],[.vec 1 es0_8 true,.box [.p (.sl 15 es0_9 full0_10)]]⟩) (xx.2.2.2.2.1,yy.1,yy.2.1.1.1,yy.2.1.1.2)
def f65_tab : List (Nat×Told):=[(4,f65_p4L),(18,f65_p18L),(14,f65_p14L)]
def f65_call : FuncId→List TV→List Entry→(TV→List Entry→Prop)→Prop:=addCall 85 f85_G (addCall 84 f84_G (noCalls))
def f65_C : Ctx:=mkC [(4,[(0,[0,1,2,6,7,8]),(2,[]),(3,[0,1,2,6,7])]),(18,[(0,[0,1,2,6,7,8]),(2,[]),(5,[]),(6,[0,1,2,6]),(7,[0,1,2,6,7])]),(14,[(0,[0,1,2,6]),(2,[]),(5,[])])] [] [] [] [] true 2 false (lookL f65_tab) f65_call
def f65_p4_mk (i7 n8 : Nat) (n9 n10 : Int) (x : Int×Int×(LL)×(LL)×Bool) : St:=⟨mkS 63 [(0,.w (.one (.ref 0 i7 n8))),(1,I n9),(2,.w (.one (.clo 41 [] [.ptr 1 0 0]))),(6,I n10),(7,I x.1),(8,I x.2.1)],[.vec 1 x.2.2.1 true,.box [.p (.sl 15 x.2.2.2.1 x.2.2.2.2)]]⟩
theorem f65_p4e0 (i_23 n_24 : Nat) (n_25 n_26 : Int) (n_27 n_28 : Int) (es_29 es_30 : LL) (full_31 : Bool) (N : St→Prop) (K : TExit→St→Prop) : (f65_p4b0 i_23 n_24 n_25 n_26 n_27 n_28 es_29 es_30 full_31 (fun z4 z5 z6 z7 z8=>N (f65_p4_mk i_23 n_24 n_25 n_26 (z4,z5,z6,z7,z8))) (fun n0_32 es0_33 es0_34 full0_35=>K (.exit 0) ⟨mkS 63 [(0,.w (.one (.ref 0 i_23 n_24))),(1,I n_25),(2,.w (.one (.clo 41 [] [.ptr 1 0 0]))),(6,I n_26),(7,I n0_32)],[.vec 1 es0_33 true,.box [.p (.sl 15 es0_34 full0_35)]]⟩)) = execT f65_C (bd Tryd.f65 0) (f65_p4_mk i_23 n_24 n_25 n_26 (n_27,n_28,es_29,es_30,full_31)) (loopK N (normK f65_C 4) fun e s=>K e (normOut f65_C 4 e s)):=by kernel_rfl
def f65_p18_mk (i33 n34 : Nat) (n35 n36 : Int) (x : Int×Int×(LL)×(LL)×Bool) : St:=⟨mkS 63 [(0,.w (.one (.ref 0 i33 n34))),(1,I n35),(2,.w (.one (.clo 41 [] [.ptr 1 0 0]))),(6,I n36),(7,I x.1),(8,I x.2.1)],[.vec 1 x.2.2.1 true,.box [.p (.sl 15 x.2.2.2.1 x.2.2.2.2)]]⟩
theorem f65_p18e0 (i_45 n_46 : Nat) (n_47 n_48 : Int) (n_49 n_50 : Int) (es_51 es_52 : LL) (full_53 : Bool) (N : St→Prop) (K : TExit→St→Prop) : (f65_p18b0 i_45 n_46 n_47 n_48 n_49 n_50 es_51 es_52 full_53 (fun z4 z5 z6 z7 z8=>N (f65_p18_mk i_45 n_46 n_47 n_48 (z4,z5,z6,z7,z8))) (fun n0_54 es0_55 es0_56 full0_57=>K (.exit 4) ⟨mkS 63 [(0,.w (.one (.ref 0 i_45 n_46))),(1,I n_47),(2,.w (.one (.clo 41 [] [.ptr 1 0 0]))),(6,I n_48),(7,I n0_54)],[.vec 1 es0_55 true,.box [.p (.sl 15 es0_56 full0_57)]]⟩)) = execT f65_C (bd Tryd.f65 2) (f65_p18_mk i_45 n_46 n_47 n_48 (n_49,n_50,es_51,es_52,full_53)) (loopK N (normK f65_C 18) fun e s=>K e (normOut f65_C 18 e s)):=by kernel_rfl
def f65_p14_mk (i26 n27 : Nat) (n28 : Int) (x : Int×(LL)×(LL)×Bool) : St:=⟨mkS 63 [(0,.w (.one (.ref 0 i26 n27))),(1,I n28),(2,.w (.one (.clo 41 [] [.ptr 1 0 0]))),(6,I x.1)],[.vec 1 x.2.1 true,.box [.p (.sl 15 x.2.2.1 x.2.2.2)]]⟩
theorem f65_p14e0 (i_65 n_66 : Nat) (n_67 n_68 : Int) (es_69 es_70 : LL) (full_71 : Bool) (N : St→Prop) (K : TExit→St→Prop) : (f65_p14b0 i_65 n_66 n_67 n_68 es_69 es_70 full_71 (fun z3 z4 z5 z6=>N (f65_p14_mk i_65 n_66 n_67 (z3,z4,z5,z6))) (fun es0_72 es0_73 full0_74=>K (.exit 2) ⟨mkS 63 [],[.vec 1 es0_72 true,.box [.p (.sl 15 es0_73 full0_74)]]⟩)) = execT f65_C (bd Tryd.f65 1) (f65_p14_mk i_65 n_66 n_67 (n_68,es_69,es_70,full_71)) (loopK N (normK f65_C 14) fun e s=>K e (normOut f65_C 14 e s)):=by kernel_rfl
set_option maxHeartbeats 4000000 in
theorem f65_p4_ok : LoopOk f65_C (bd Tryd.f65 0):=by
  refine LoopOk.of f65_p4L (by kernel_rfl) fun σ K h=>?_
  have hk : loopKey (bd Tryd.f65 0) = 4:=by kernel_rfl
  rw [hk] at h ⊢
  generalize hs : normK f65_C 4 σ = s at h
  obtain ⟨tm,hp⟩:=s
  unfold f65_p4L at h
  dsimp only at h
  obtain ⟨xx,yy,rfl,rfl,h⟩:=getS_elim h
  refine iter_of (f65_p4_mk xx.1.1 xx.1.2 xx.2.1 xx.2.2.2.2.1) (fun x N h=>?_) rounds _ σ (hs.trans (by kernel_rfl)) (LoopP.run h)
  obtain ⟨y0,y1,y2,y3,y4⟩:=x
  rw [← f65_p4e0 xx.1.1 xx.1.2 xx.2.1 xx.2.2.2.2.1 y0 y1 y2 y3 y4 N K]
  exact h
set_option maxHeartbeats 4000000 in
theorem f65_p18_ok : LoopOk f65_C (bd Tryd.f65 2):=by
  refine LoopOk.of f65_p18L (by kernel_rfl) fun σ K h=>?_
  have hk : loopKey (bd Tryd.f65 2) = 18:=by kernel_rfl
  rw [hk] at h ⊢
  generalize hs : normK f65_C 18 σ = s at h
  obtain ⟨tm,hp⟩:=s
  unfold f65_p18L at h
  dsimp only at h
  obtain ⟨xx,yy,rfl,rfl,h⟩:=getS_elim h
  refine iter_of (f65_p18_mk xx.1.1 xx.1.2 xx.2.1 xx.2.2.2.2.1) (fun x N h=>?_) rounds _ σ (hs.trans (by kernel_rfl)) (LoopP.run h)
  obtain ⟨y0,y1,y2,y3,y4⟩:=x
  rw [← f65_p18e0 xx.1.1 xx.1.2 xx.2.1 xx.2.2.2.2.1 y0 y1 y2 y3 y4 N K]
  exact h
set_option maxHeartbeats 4000000 in
theorem f65_p14_ok : LoopOk f65_C (bd Tryd.f65 1):=by
  refine LoopOk.of f65_p14L (by kernel_rfl) fun σ K h=>?_
  have hk : loopKey (bd Tryd.f65 1) = 14:=by kernel_rfl
  rw [hk] at h ⊢
  generalize hs : normK f65_C 14 σ = s at h
  obtain ⟨tm,hp⟩:=s
  unfold f65_p14L at h
  dsimp only at h
  obtain ⟨xx,yy,rfl,rfl,h⟩:=getS_elim h
  refine iter_of (f65_p14_mk xx.1.1 xx.1.2 xx.2.1) (fun x N h=>?_) rounds _ σ (hs.trans (by kernel_rfl)) (LoopP.run h)
  obtain ⟨y0,y1,y2,y3⟩:=x
  rw [← f65_p14e0 xx.1.1 xx.1.2 xx.2.1 y0 y1 y2 y3 N K]
  exact h
def f65_G0 : List TV→List Entry→(TV→List Entry→Prop)→Prop:=fun tm hp K=>getS [.v (.one (.ref 0)),.v (.one (.int .i64)),.v (.clo 41 [] [.ptr 1 0 0])] [.vec 1 true,.box [.sl 15]] tm hp fun (xx : ((Nat×Nat)×(Int×((Unit×(Unit×Unit))×Unit)))) (yy : ((LL)×(((LL×Bool)×Unit)×Unit)))=>f65 xx.1.1 xx.1.2 xx.2.1 yy.1 yy.2.1.1.1 yy.2.1.1.2 (fun es0_11 es0_12 full0_13=>K undefT [.vec 1 es0_11 true,.box [.p (.sl 15 es0_12 full0_13)]])
theorem f65_eq (i_75 n_76 : Nat) (n_77 : Int) (es_78 es_79 : LL) (full_80 : Bool) (K : TV→List Entry→Prop) : (f65_d i_75 n_76 n_77 es_78 es_79 full_80 (fun es0_11 es0_12 full0_13=>K undefT [.vec 1 es0_11 true,.box [.p (.sl 15 es0_12 full0_13)]])) = funcT f65_C Tryd.f65 [.w (.one (.ref 0 i_75 n_76)),I n_77,.w (.one (.clo 41 [] [.ptr 1 0 0]))] [.vec 1 es_78 true,.box [.p (.sl 15 es_79 full_80)]] K:=by kernel_rfl
set_option maxHeartbeats 4000000 in
theorem f65_ok0 : FnOk Tryd.prog glob 65 f65_G0:=by
  refine FnOk.of_text (C:=f65_C) tab_ok.ok (Known.add f85_G_ok (Known.add f84_G_ok (Known.none))) follows_ok (fn:=Tryd.f65) (by kernel_rfl) (by kernel_rfl) (by kernel_rfl) (fun c hc=>?_) fun tm hp K h=>?_
  · have e : c = bodyOf Tryd.f65:=Option.some.inj (hc.symm.trans (by kernel_rfl))
    subst e
    exact ⟨LoopsOk.of [bd Tryd.f65 0,bd Tryd.f65 1,bd Tryd.f65 2] (by kernel_rfl) ⟨f65_p4_ok,f65_p14_ok,f65_p18_ok,trivial⟩,TailsOk.of (tab:=f65_tab) rfl [] (by kernel_rfl) trivial⟩
  · unfold f65_G0 at h
    obtain ⟨xx,yy,rfl,rfl,h⟩:=getS_elim h
    have e:=(f65_eq xx.1.1 xx.1.2 xx.2.1 yy.1 yy.2.1.1.1 yy.2.1.1.2 K).trans (show _ = funcT f65_C Tryd.f65 (mkR _ xx) (mkE _ yy) K by kernel_rfl)
    rw [← e]
    exact h.run
abbrev f65_G:=f65_G0
theorem f65_G_ok : FnOk Tryd.prog glob 65 f65_G:=f65_ok0
def f40_d (i1 n2 : Nat) (es3 es4 : LL) (full5 : Bool) (k0 : (LL)→(LL)→Bool→Prop) : Prop:=f65 i1 n2 (n2 : Int) es3 es4 full5 (fun es6 es7 full8=>k0 es6 es7 full8)
structure f40 (i1 n2 : Nat) (es3 es4 : LL) (full5 : Bool) (k0 : (LL)→(LL)→Bool→Prop) : Prop where
  run : f40_d i1 n2 es3 es4 full5 k0
def f40_tab : List (Nat×Told):=[]
def f40_call : FuncId→List TV→List Entry→(TV→List Entry→Prop)→Prop:=addCall 65 f65_G (noCalls)
def f40_C : Ctx:=mkC [] [] [] [] [] true 2 false (lookL f40_tab) f40_call
def f40_G0 : List TV→List Entry→(TV→List Entry→Prop)→Prop:=fun tm hp K=>getS [.v (.one (.ref 0)),.v (.clo 41 [] [.ptr 1 0 0])] [.vec 1 true,.box [.sl 15]] tm hp fun (xx : ((Nat×Nat)×((Unit×(Unit×Unit))×Unit))) (yy : ((LL)×(((LL×Bool)×Unit)×Unit)))=>f40 xx.1.1 xx.1.2 yy.1 yy.2.1.1.1 yy.2.1.1.2 (fun es0_0 es0_1 full0_2=>K undefT [.vec 1 es0_0 true,.box [.p (.sl 15 es0_1 full0_2)]])
theorem f40_eq (i_3 n_4 : Nat) (es_5 es_6 : LL) (full_7 : Bool) (K : TV→List Entry→Prop) : (f40_d i_3 n_4 es_5 es_6 full_7 (fun es0_0 es0_1 full0_2=>K undefT [.vec 1 es0_0 true,.box [.p (.sl 15 es0_1 full0_2)]])) = funcT f40_C Tryd.f40 [.w (.one (.ref 0 i_3 n_4)),.w (.one (.clo 41 [] [.ptr 1 0 0]))] [.vec 1 es_5 true,.box [.p (.sl 15 es_6 full_7)]] K:=by kernel_rfl
set_option maxHeartbeats 4000000 in
theorem f40_ok0 : FnOk Tryd.prog glob 40 f40_G0:=by
  refine FnOk.of_text (C:=f40_C) tab_ok.ok (Known.add f65_G_ok (Known.none)) follows_ok (fn:=Tryd.f40) (by kernel_rfl) (by kernel_rfl) (by kernel_rfl) (fun c hc=>?_) fun tm hp K h=>?_
  · have e : c = bodyOf Tryd.f40:=Option.some.inj (hc.symm.trans (by kernel_rfl))
    subst e
    exact ⟨LoopsOk.of [] (by kernel_rfl) trivial,TailsOk.of (tab:=f40_tab) rfl [] (by kernel_rfl) trivial⟩
  · unfold f40_G0 at h
    obtain ⟨xx,yy,rfl,rfl,h⟩:=getS_elim h
    have e:=(f40_eq xx.1.1 xx.1.2 yy.1 yy.2.1.1.1 yy.2.1.1.2 K).trans (show _ = funcT f40_C Tryd.f40 (mkR _ xx) (mkE _ yy) K by kernel_rfl)
    rw [← e]
    exact h.run
abbrev f40_G:=f40_G0
theorem f40_G_ok : FnOk Tryd.prog glob 40 f40_G:=f40_ok0
def f23_p6b0 (es6 : LL) (full7 : Bool) (n8 : Int) (i9 n10 : Nat) (es11 : LL) (full12 : Bool) (n13 n14 : Int) (es15 : LL) (full16 : Bool) (es17 : LL) (N0 : Nat→Nat→Int→(LL)→Prop) (k0 : Nat→Nat→(LL)→Prop) : Prop:=bB (decide (n14 < n13)) ((0≤n14∧n14 < (es11.length : Int))∧cS (ext (List.getD es11 (Int.toNat n14) []) 0 15) fun s19 r18=>cI .i64 r18 fun n21 r20=>cI .i64 r20 fun n23 r22=>cI .i64 r22 fun n25 r24=>cI .i64 r24 fun n27 r26=>cI .i64 r26 fun n29 r28=>cI .i64 r28 fun n31 r30=>cI .i64 r30 fun n33 r32=>cI .i64 r32 fun n35 r34=>cI .i64 r34 fun n37 r36=>cI .i64 r36 fun n39 r38=>cI .i64 r38 fun n41 r40=>cS r40 fun s43 r42=>cI .i64 r42 fun n45 r44=>cL 3 r44 fun es47 full48 r46=>nilC r46 <| f39 es6 full7 s43 (fun s49 es50 full51 b52=>bB (!(s43.toList == (⟨#[]⟩ : ByteArray).toList)) (bB b52 (f20 s49 es50 full51 n8 (fun b53=>bB b53 ((i9 + n10)≤es17.length∧(n10 + 1) * 8≤2 ^ 47 + 2 ^ 30∧(n10 + 1)≤2 ^ 47 + 2 ^ 30∧N0 0 (n10 + 1) (w64 (n14 + 1)) ((List.take n10 (List.drop i9 es17)) ++ [[pI n14]])) (bB (s43.toList == (⟨#[]⟩ : ByteArray).toList) (f36 n21 n23 n25 n27 n29 n31 n33 n35 n37 n39 n41 n8 (fun b54=>bB b54 ((i9 + n10)≤es17.length∧(n10 + 1) * 8≤2 ^ 47 + 2 ^ 30∧(n10 + 1)≤2 ^ 47 + 2 ^ 30∧N0 0 (n10 + 1) (w64 (n14 + 1)) ((List.take n10 (List.drop i9 es17)) ++ [[pI n14]])) (N0 i9 n10 (w64 (n14 + 1)) es17))) (N0 i9 n10 (w64 (n14 + 1)) es17)))) (bB (s43.toList == (⟨#[]⟩ : ByteArray).toList) (f36 n21 n23 n25 n27 n29 n31 n33 n35 n37 n39 n41 n8 (fun b55=>bB b55 ((i9 + n10)≤es17.length∧(n10 + 1) * 8≤2 ^ 47 + 2 ^ 30∧(n10 + 1)≤2 ^ 47 + 2 ^ 30∧N0 0 (n10 + 1) (w64 (n14 + 1)) ((List.take n10 (List.drop i9 es17)) ++ [[pI n14]])) (N0 i9 n10 (w64 (n14 + 1)) es17))) (N0 i9 n10 (w64 (n14 + 1)) es17))) (bB (s43.toList == (⟨#[]⟩ : ByteArray).toList) (f36 n21 n23 n25 n27 n29 n31 n33 n35 n37 n39 n41 n8 (fun b56=>bB b56 ((i9 + n10)≤es17.length∧(n10 + 1) * 8≤2 ^ 47 + 2 ^ 30∧(n10 + 1)≤2 ^ 47 + 2 ^ 30∧N0 0 (n10 + 1) (w64 (n14 + 1)) ((List.take n10 (List.drop i9 es17)) ++ [[pI n14]])) (N0 i9 n10 (w64 (n14 + 1)) es17))) (N0 i9 n10 (w64 (n14 + 1)) es17)))) (k0 i9 n10 es17)
def f23_p6 (es6 : LL) (full7 : Bool) (n8 : Int) (es11 : LL) (full12 : Bool) (n13 : Int) (es15 : LL) (full16 : Bool) (k0 : Nat→Nat→(LL)→Prop) : Nat×Nat×Int×(LL)→Prop:=LoopP fun x N=>f23_p6b0 es6 full7 n8 x.1 x.2.1 es11 full12 n13 x.2.2.1 es15 full16 x.2.2.2 (fun i9 n10 n14 es17=>N (i9,n10,n14,es17)) k0
def f23_d (es1 : LL) (full2 : Bool) (es3 : LL) (full4 : Bool) (n5 : Int) (k0 : Nat→Nat→(LL)→Prop) : Prop:=f23_p6 es3 full4 n5 es1 full2 (es1.length : Int) es1 full2 (fun i57 n58 es59=>f40 i57 n58 es59 es1 full2 (fun es60 es61 full62=>k0 i57 n58 es60)) (0,0,0,[])
structure f23 (es1 : LL) (full2 : Bool) (es3 : LL) (full4 : Bool) (n5 : Int) (k0 : Nat→Nat→(LL)→Prop) : Prop where
  run : f23_d es1 full2 es3 full4 n5 k0
def f23_p6L : Told:=fun s K=>match s with
  | ⟨tm,hp⟩=>getS [.skip 1,.v (.one (.sl 2)),.v (.one (.int .i64)),.v (.one (.ptr 0 0 0)),.skip 3,.v (.one (.ref 1)),.skip 4,.v (.one (.sl 15)),.v (.one (.int .i64)),.v (.one (.int .i64)),.skip 42] [.box [.sl 15],.vec 1 true] tm hp fun (xx : (Unit×((LL×Bool)×(Int×(Unit×(Unit×((Nat×Nat)×(Unit×((LL×Bool)×(Int×(Int×(Unit×Unit)))))))))))) (yy : (((LL×Bool)×Unit)×((LL)×Unit)))=>f23_p6 xx.2.1.1 xx.2.1.2 xx.2.2.1 xx.2.2.2.2.2.2.2.1.1 xx.2.2.2.2.2.2.2.1.2 xx.2.2.2.2.2.2.2.2.1 yy.1.1.1 yy.1.1.2 (fun i0_0 n0_1 es0_2=>K (.exit 0) ⟨mkS 57 [(3,.w (.one (.ptr 0 0 0))),(7,.w (.one (.ref 1 i0_0 n0_1)))],[.box [.p (.sl 15 yy.1.1.1 yy.1.1.2)],.vec 1 es0_2 true]⟩) (xx.2.2.2.2.2.1.1,xx.2.2.2.2.2.1.2,xx.2.2.2.2.2.2.2.2.2.1,yy.2.1)
def f23_tab : List (Nat×Told):=[(6,f23_p6L)]
def f23_call : FuncId→List TV→List Entry→(TV→List Entry→Prop)→Prop:=addCall 40 f40_G (addCall 39 f39_G (addCall 36 f36_G (addCall 20 f20_G (noCalls))))
def f23_C : Ctx:=mkC [(6,[(0,[1,2,3,7,12,13,14]),(2,[6]),(3,[3,7])])] [] [(6,[7])] [] [] true 0 false (lookL f23_tab) f23_call
def f23_p6_mk (es6 : LL) (full7 : Bool) (n8 : Int) (es11 : LL) (full12 : Bool) (n13 : Int) (es15 : LL) (full16 : Bool) (x : Nat×Nat×Int×(LL)) : St:=⟨mkS 57 [(1,.w (.one (.p (.sl 2 es6 full7)))),(2,I n8),(3,.w (.one (.ptr 0 0 0))),(7,.w (.one (.ref 1 x.1 x.2.1))),(12,.w (.one (.p (.sl 15 es11 full12)))),(13,I n13),(14,I x.2.2.1)],[.box [.p (.sl 15 es15 full16)],.vec 1 x.2.2.2 true]⟩
theorem f23_p6e0 (es_18 : LL) (full_19 : Bool) (n_20 : Int) (i_21 n_22 : Nat) (es_23 : LL) (full_24 : Bool) (n_25 n_26 : Int) (es_27 : LL) (full_28 : Bool) (es_29 : LL) (N : St→Prop) (K : TExit→St→Prop) : (f23_p6b0 es_18 full_19 n_20 i_21 n_22 es_23 full_24 n_25 n_26 es_27 full_28 es_29 (fun z3 z4 z8 z11=>N (f23_p6_mk es_18 full_19 n_20 es_23 full_24 n_25 es_27 full_28 (z3,z4,z8,z11))) (fun i0_30 n0_31 es0_32=>K (.exit 0) ⟨mkS 57 [(3,.w (.one (.ptr 0 0 0))),(7,.w (.one (.ref 1 i0_30 n0_31)))],[.box [.p (.sl 15 es_27 full_28)],.vec 1 es0_32 true]⟩)) = execT f23_C (bd Tryd.f23 0) (f23_p6_mk es_18 full_19 n_20 es_23 full_24 n_25 es_27 full_28 (i_21,n_22,n_26,es_29)) (loopK N (normK f23_C 6) fun e s=>K e (normOut f23_C 6 e s)):=by kernel_rfl
set_option maxHeartbeats 4000000 in
theorem f23_p6_ok : LoopOk f23_C (bd Tryd.f23 0):=by
  refine LoopOk.of f23_p6L (by kernel_rfl) fun σ K h=>?_
  have hk : loopKey (bd Tryd.f23 0) = 6:=by kernel_rfl
  rw [hk] at h ⊢
  generalize hs : normK f23_C 6 σ = s at h
  obtain ⟨tm,hp⟩:=s
  unfold f23_p6L at h
  dsimp only at h
  obtain ⟨xx,yy,rfl,rfl,h⟩:=getS_elim h
  refine iter_of (f23_p6_mk xx.2.1.1 xx.2.1.2 xx.2.2.1 xx.2.2.2.2.2.2.2.1.1 xx.2.2.2.2.2.2.2.1.2 xx.2.2.2.2.2.2.2.2.1 yy.1.1.1 yy.1.1.2) (fun x N h=>?_) rounds _ σ (hs.trans (by kernel_rfl)) (LoopP.run h)
  obtain ⟨y0,y1,y2,y3⟩:=x
  rw [← f23_p6e0 xx.2.1.1 xx.2.1.2 xx.2.2.1 y0 y1 xx.2.2.2.2.2.2.2.1.1 xx.2.2.2.2.2.2.2.1.2 xx.2.2.2.2.2.2.2.2.1 y2 yy.1.1.1 yy.1.1.2 y3 N K]
  exact h
def f23_G0 : List TV→List Entry→(TV→List Entry→Prop)→Prop:=fun tm hp K=>getS [.v (.one (.sl 15)),.v (.one (.sl 2)),.v (.one (.int .i64))] [] tm hp fun (xx : ((LL×Bool)×((LL×Bool)×(Int×Unit)))) (yy : Unit)=>f23 xx.1.1 xx.1.2 xx.2.1.1 xx.2.1.2 xx.2.2.1 (fun i0_3 n0_4 es0_5=>K (.w (.one (.ref 0 i0_3 n0_4))) [.vec 1 es0_5 true])
theorem f23_eq (es_33 : LL) (full_34 : Bool) (es_35 : LL) (full_36 : Bool) (n_37 : Int) (K : TV→List Entry→Prop) : (f23_d es_33 full_34 es_35 full_36 n_37 (fun i0_3 n0_4 es0_5=>K (.w (.one (.ref 0 i0_3 n0_4))) [.vec 1 es0_5 true])) = funcT f23_C Tryd.f23 [.w (.one (.p (.sl 15 es_33 full_34))),.w (.one (.p (.sl 2 es_35 full_36))),I n_37] [] K:=by kernel_rfl
set_option maxHeartbeats 4000000 in
theorem f23_ok0 : FnOk Tryd.prog glob 23 f23_G0:=by
  refine FnOk.of_text (C:=f23_C) tab_ok.ok (Known.add f40_G_ok (Known.add f39_G_ok (Known.add f36_G_ok (Known.add f20_G_ok (Known.none))))) follows_ok (fn:=Tryd.f23) (by kernel_rfl) (by kernel_rfl) (by kernel_rfl) (fun c hc=>?_) fun tm hp K h=>?_
  · have e : c = bodyOf Tryd.f23:=Option.some.inj (hc.symm.trans (by kernel_rfl))
    subst e
    exact ⟨LoopsOk.of [bd Tryd.f23 0] (by kernel_rfl) ⟨f23_p6_ok,trivial⟩,TailsOk.of (tab:=f23_tab) rfl [] (by kernel_rfl) trivial⟩
  · unfold f23_G0 at h
    obtain ⟨xx,yy,rfl,rfl,h⟩:=getS_elim h
    have e:=(f23_eq xx.1.1 xx.1.2 xx.2.1.1 xx.2.1.2 xx.2.2.1 K).trans (show _ = funcT f23_C Tryd.f23 (mkR _ xx) (mkE _ yy) K by kernel_rfl)
    rw [← e]
    exact h.run
abbrev f23_G:=f23_G0
theorem f23_G_ok : FnOk Tryd.prog glob 23 f23_G:=f23_ok0
structure f24 (i n : Nat) (es : LL) (k0 : (LL)→Prop) : Prop where
  run : sortD i n es k0
def f24_G0 : List TV→List Entry→(TV→List Entry→Prop)→Prop:=fun tm hp K=>getS [.v (.one (.ref 0))] [.vec 1 true] tm hp fun (xx : ((Nat×Nat)×Unit)) (yy : ((LL)×Unit))=>f24 xx.1.1 xx.1.2 yy.1 (fun es0_0=>K undefT [.vec 1 es0_0 true])
theorem f24_ok0 : FnOk Tryd.prog glob 24 f24_G0:=fun tm hp K h=>by
  unfold f24_G0 at h
  obtain ⟨xx,yy,rfl,rfl,h⟩:=getS_elim h
  exact ⟨⟨Tryd.f24,Tryd.func24,by kernel_rfl,by kernel_rfl⟩,sort_ok Tryd.sortA h.run⟩
abbrev f24_G:=f24_G0
theorem f24_G_ok : FnOk Tryd.prog glob 24 f24_G:=f24_ok0
def f45_p6b0 (n4 : Int) (es5 : LL) (full6 : Bool) (n7 n8 : Int) (n9 n10 : Int) (n11 n12 : Int) (N0 : Int→Int→Int→Prop) (k0 : Int→Int→Prop) : Prop:=bB (decide (n8 < n7)) ((0≤n8∧n8 < (es5.length : Int))∧cI .i64 (ext (List.getD es5 (Int.toNat n8) []) 0 3) fun n14 r13=>cI .i64 r13 fun n16 r15=>cI .i64 r15 fun n18 r17=>nilC r17 <| bB (decide (n14≤n4)) (N0 (w64 (n8 + 1)) n16 n18) (N0 (w64 (n8 + 1)) n11 n12)) (k0 n11 n12)
def f45_p6 (n4 : Int) (es5 : LL) (full6 : Bool) (n7 n9 n10 : Int) (k0 : Int→Int→Prop) : Int×Int×Int→Prop:=LoopP fun x N=>f45_p6b0 n4 es5 full6 n7 x.1 n9 n10 x.2.1 x.2.2 (fun n8 n11 n12=>N (n8,n11,n12)) k0
def f45_d (es1 : LL) (full2 : Bool) (n3 : Int) (k0 : Int→Int→Prop) : Prop:=f45_p6 n3 es1 full2 (es1.length : Int) 0 0 (fun n19 n20=>k0 n19 n20) (0,0,0)
structure f45 (es1 : LL) (full2 : Bool) (n3 : Int) (k0 : Int→Int→Prop) : Prop where
  run : f45_d es1 full2 n3 k0
def f45_p6L : Told:=fun s K=>match s with
  | ⟨tm,hp⟩=>getS [.skip 1,.v (.one (.int .i64)),.skip 2,.v (.one (.ptr 0 0 0)),.v (.one (.ptr 1 0 0)),.skip 2,.v (.one (.sl 3)),.v (.one (.int .i64)),.v (.one (.int .i64)),.skip 11] [.box [.int .i64,.int .i64],.box [.int .i64,.int .i64]] tm hp fun (xx : (Unit×(Int×(Unit×(Unit×(Unit×(Unit×((LL×Bool)×(Int×(Int×(Unit×Unit))))))))))) (yy : ((Int×(Int×Unit))×((Int×(Int×Unit))×Unit)))=>f45_p6 xx.2.1 xx.2.2.2.2.2.2.1.1 xx.2.2.2.2.2.2.1.2 xx.2.2.2.2.2.2.2.1 yy.1.1 yy.1.2.1 (fun n0_0 n0_1=>K (.exit 0) ⟨mkS 22 [(4,.w (.one (.ptr 0 0 0))),(5,.w (.one (.ptr 1 0 0)))],[.box [.p (pI yy.1.1),.p (pI yy.1.2.1)],.box [.p (pI n0_0),.p (pI n0_1)]]⟩) (xx.2.2.2.2.2.2.2.2.1,yy.2.1.1,yy.2.1.2.1)
def f45_tab : List (Nat×Told):=[(6,f45_p6L)]
def f45_call : FuncId→List TV→List Entry→(TV→List Entry→Prop)→Prop:=noCalls
def f45_C : Ctx:=mkC [(6,[(0,[1,4,5,8,9,10]),(2,[4]),(3,[4,5])])] [] [] [] [] false 0 true (lookL f45_tab) f45_call
def f45_p6_mk (n4 : Int) (es5 : LL) (full6 : Bool) (n7 n9 n10 : Int) (x : Int×Int×Int) : St:=⟨mkS 22 [(1,I n4),(4,.w (.one (.ptr 0 0 0))),(5,.w (.one (.ptr 1 0 0))),(8,.w (.one (.p (.sl 3 es5 full6)))),(9,I n7),(10,I x.1)],[.box [.p (pI n9),.p (pI n10)],.box [.p (pI x.2.1),.p (pI x.2.2)]]⟩
theorem f45_p6e0 (n_13 : Int) (es_14 : LL) (full_15 : Bool) (n_16 n_17 : Int) (n_18 n_19 : Int) (n_20 n_21 : Int) (N : St→Prop) (K : TExit→St→Prop) : (f45_p6b0 n_13 es_14 full_15 n_16 n_17 n_18 n_19 n_20 n_21 (fun z4 z7 z8=>N (f45_p6_mk n_13 es_14 full_15 n_16 n_18 n_19 (z4,z7,z8))) (fun n0_22 n0_23=>K (.exit 0) ⟨mkS 22 [(4,.w (.one (.ptr 0 0 0))),(5,.w (.one (.ptr 1 0 0)))],[.box [.p (pI n_18),.p (pI n_19)],.box [.p (pI n0_22),.p (pI n0_23)]]⟩)) = execT f45_C (bd Tryd.f45 0) (f45_p6_mk n_13 es_14 full_15 n_16 n_18 n_19 (n_17,n_20,n_21)) (loopK N (normK f45_C 6) fun e s=>K e (normOut f45_C 6 e s)):=by kernel_rfl
set_option maxHeartbeats 4000000 in
theorem f45_p6_ok : LoopOk f45_C (bd Tryd.f45 0):=by
  refine LoopOk.of f45_p6L (by kernel_rfl) fun σ K h=>?_
  have hk : loopKey (bd Tryd.f45 0) = 6:=by kernel_rfl
  rw [hk] at h ⊢
  generalize hs : normK f45_C 6 σ = s at h
  obtain ⟨tm,hp⟩:=s
  unfold f45_p6L at h
  dsimp only at h
  obtain ⟨xx,yy,rfl,rfl,h⟩:=getS_elim h
  refine iter_of (f45_p6_mk xx.2.1 xx.2.2.2.2.2.2.1.1 xx.2.2.2.2.2.2.1.2 xx.2.2.2.2.2.2.2.1 yy.1.1 yy.1.2.1) (fun x N h=>?_) rounds _ σ (hs.trans (by kernel_rfl)) (LoopP.run h)
  obtain ⟨y0,y1,y2⟩:=x
  rw [← f45_p6e0 xx.2.1 xx.2.2.2.2.2.2.1.1 xx.2.2.2.2.2.2.1.2 xx.2.2.2.2.2.2.2.1 y0 yy.1.1 yy.1.2.1 y1 y2 N K]
  exact h
def f45_G0 : List TV→List Entry→(TV→List Entry→Prop)→Prop:=fun tm hp K=>getS [.v (.one (.sl 3)),.v (.one (.int .i64))] [] tm hp fun (xx : ((LL×Bool)×(Int×Unit))) (yy : Unit)=>f45 xx.1.1 xx.1.2 xx.2.1 (fun n0_2 n0_3=>K (.w (.pagg [pI n0_2,pI n0_3])) [])
theorem f45_eq (es_24 : LL) (full_25 : Bool) (n_26 : Int) (K : TV→List Entry→Prop) : (f45_d es_24 full_25 n_26 (fun n0_2 n0_3=>K (.w (.pagg [pI n0_2,pI n0_3])) [])) = funcT f45_C Tryd.f45 [.w (.one (.p (.sl 3 es_24 full_25))),I n_26] [] K:=by kernel_rfl
set_option maxHeartbeats 4000000 in
theorem f45_ok0 : FnOk Tryd.prog glob 45 f45_G0:=by
  refine FnOk.of_text (C:=f45_C) tab_ok.ok (Known.none) follows_ok (fn:=Tryd.f45) (by kernel_rfl) (by kernel_rfl) (by kernel_rfl) (fun c hc=>?_) fun tm hp K h=>?_
  · have e : c = bodyOf Tryd.f45:=Option.some.inj (hc.symm.trans (by kernel_rfl))
    subst e
    exact ⟨LoopsOk.of [bd Tryd.f45 0] (by kernel_rfl) ⟨f45_p6_ok,trivial⟩,TailsOk.of (tab:=f45_tab) rfl [] (by kernel_rfl) trivial⟩
  · unfold f45_G0 at h
    obtain ⟨xx,yy,rfl,rfl,h⟩:=getS_elim h
    have e:=(f45_eq xx.1.1 xx.1.2 xx.2.1 K).trans (show _ = funcT f45_C Tryd.f45 (mkR _ xx) (mkE _ yy) K by kernel_rfl)
    rw [← e]
    exact h.run
abbrev f45_G:=f45_G0
theorem f45_G_ok : FnOk Tryd.prog glob 45 f45_G:=f45_ok0
def f25_p4b0 (es6 : LL) (full7 : Bool) (n8 : Int) (es9 : LL) (full10 : Bool) (n11 n12 : Int) (n13 n14 : Int) (N0 : Int→Prop) (k0 : Int→Int→Int→Prop) (k1 : Unit→Prop) : Prop:=bB (decide (n12 < n11)) ((0≤n12∧n12 < (es9.length : Int))∧oI .i64 (ext (List.getD es9 (Int.toNat n12) []) 0 1) fun n15=>(0≤n15∧n15 < (es6.length : Int))∧oL 3 (ext (List.getD es6 (Int.toNat n15) []) 14 1) fun es16 full17=>f45 es16 full17 n8 (fun n18 n19=>bB (n18 != 0) (k0 n15 n18 n19) (N0 (w64 (n12 + 1))))) (k1 ())
def f25_p4 (es6 : LL) (full7 : Bool) (n8 : Int) (es9 : LL) (full10 : Bool) (n11 n13 n14 : Int) (k0 : Int→Int→Int→Prop) (k1 : Unit→Prop) : Int→Prop:=LoopP fun x N=>f25_p4b0 es6 full7 n8 es9 full10 n11 x n13 n14 (fun n12=>N n12) k0 k1
def f25_d (es1 : LL) (full2 : Bool) (es3 : LL) (full4 : Bool) (n5 : Int) (k0 : Int→Int→Int→Prop) : Prop:=f25_p4 es1 full2 n5 es3 full4 (es3.length : Int) 0 0 (fun n20 n21 n22=>k0 n20 n21 n22) (fun (_ : Unit)=>k0 (-1) 0 0) 0
structure f25 (es1 : LL) (full2 : Bool) (es3 : LL) (full4 : Bool) (n5 : Int) (k0 : Int→Int→Int→Prop) : Prop where
  run : f25_d es1 full2 es3 full4 n5 k0
def f25_p4L : Told:=fun s K=>match s with
  | ⟨tm,hp⟩=>getS [.v (.one (.sl 15)),.skip 1,.v (.one (.int .i64)),.skip 4,.v (.one (.ptr 0 0 0)),.skip 3,.v (.one (.sl 1)),.v (.one (.int .i64)),.v (.one (.int .i64)),.skip 17] [.box [.int .i64,.int .i64]] tm hp fun (xx : ((LL×Bool)×(Unit×(Int×(Unit×(Unit×(Unit×((LL×Bool)×(Int×(Int×(Unit×Unit))))))))))) (yy : ((Int×(Int×Unit))×Unit))=>f25_p4 xx.1.1 xx.1.2 xx.2.2.1 xx.2.2.2.2.2.2.1.1 xx.2.2.2.2.2.2.1.2 xx.2.2.2.2.2.2.2.1 yy.1.1 yy.1.2.1 (fun n0_0 n0_1 n0_2=>K .ret ⟨mkS 31 [(6,I n0_0),(7,.w (.one (.ptr 0 0 0)))],[.box [.p (pI n0_1),.p (pI n0_2)]]⟩) (fun (_ : Unit)=>K (.exit 0) ⟨mkS 31 [(7,.w (.one (.ptr 0 0 0)))],[.box [.p (pI yy.1.1),.p (pI yy.1.2.1)]]⟩) xx.2.2.2.2.2.2.2.2.1
def f25_tab : List (Nat×Told):=[(4,f25_p4L)]
def f25_call : FuncId→List TV→List Entry→(TV→List Entry→Prop)→Prop:=addCall 45 f45_G (noCalls)
def f25_C : Ctx:=mkC [(4,[(0,[0,2,7,11,12,13]),(2,[6,7]),(3,[7])])] [] [] [] [] false 0 true (lookL f25_tab) f25_call
def f25_p4_mk (es6 : LL) (full7 : Bool) (n8 : Int) (es9 : LL) (full10 : Bool) (n11 n13 : Int) (n14 x : Int) : St:=⟨mkS 31 [(0,.w (.one (.p (.sl 15 es6 full7)))),(2,I n8),(7,.w (.one (.ptr 0 0 0))),(11,.w (.one (.p (.sl 1 es9 full10)))),(12,I n11),(13,I x)],[.box [.p (pI n13),.p (pI n14)]]⟩
theorem f25_p4e0 (es_15 : LL) (full_16 : Bool) (n_17 : Int) (es_18 : LL) (full_19 : Bool) (n_20 n_21 : Int) (n_22 n_23 : Int) (N : St→Prop) (K : TExit→St→Prop) : (f25_p4b0 es_15 full_16 n_17 es_18 full_19 n_20 n_21 n_22 n_23 (fun z6=>N (f25_p4_mk es_15 full_16 n_17 es_18 full_19 n_20 n_22 n_23 z6)) (fun n0_24 n0_25 n0_26=>K .ret ⟨mkS 31 [(6,I n0_24),(7,.w (.one (.ptr 0 0 0)))],[.box [.p (pI n0_25),.p (pI n0_26)]]⟩) (fun (_ : Unit)=>K (.exit 0) ⟨mkS 31 [(7,.w (.one (.ptr 0 0 0)))],[.box [.p (pI n_22),.p (pI n_23)]]⟩)) = execT f25_C (bd Tryd.f25 0) (f25_p4_mk es_15 full_16 n_17 es_18 full_19 n_20 n_22 n_23 n_21) (loopK N (normK f25_C 4) fun e s=>K e (normOut f25_C 4 e s)):=by kernel_rfl
set_option maxHeartbeats 4000000 in
theorem f25_p4_ok : LoopOk f25_C (bd Tryd.f25 0):=by
  refine LoopOk.of f25_p4L (by kernel_rfl) fun σ K h=>?_
  have hk : loopKey (bd Tryd.f25 0) = 4:=by kernel_rfl
  rw [hk] at h ⊢
  generalize hs : normK f25_C 4 σ = s at h
  obtain ⟨tm,hp⟩:=s
  unfold f25_p4L at h
  dsimp only at h
  obtain ⟨xx,yy,rfl,rfl,h⟩:=getS_elim h
  refine iter_of (f25_p4_mk xx.1.1 xx.1.2 xx.2.2.1 xx.2.2.2.2.2.2.1.1 xx.2.2.2.2.2.2.1.2 xx.2.2.2.2.2.2.2.1 yy.1.1 yy.1.2.1) (fun x N h=>?_) rounds _ σ (hs.trans (by kernel_rfl)) (LoopP.run h)
  rw [← f25_p4e0 xx.1.1 xx.1.2 xx.2.2.1 xx.2.2.2.2.2.2.1.1 xx.2.2.2.2.2.2.1.2 xx.2.2.2.2.2.2.2.1 x yy.1.1 yy.1.2.1 N K]
  exact h
def f25_G0 : List TV→List Entry→(TV→List Entry→Prop)→Prop:=fun tm hp K=>getS [.v (.one (.sl 15)),.v (.one (.sl 1)),.v (.one (.int .i64))] [] tm hp fun (xx : ((LL×Bool)×((LL×Bool)×(Int×Unit)))) (yy : Unit)=>f25 xx.1.1 xx.1.2 xx.2.1.1 xx.2.1.2 xx.2.2.1 (fun n0_3 n0_4 n0_5=>K (.tup [.one (.p (pI n0_3)),.pagg [pI n0_4,pI n0_5]]) [])
theorem f25_eq (es_27 : LL) (full_28 : Bool) (es_29 : LL) (full_30 : Bool) (n_31 : Int) (K : TV→List Entry→Prop) : (f25_d es_27 full_28 es_29 full_30 n_31 (fun n0_3 n0_4 n0_5=>K (.tup [.one (.p (pI n0_3)),.pagg [pI n0_4,pI n0_5]]) [])) = funcT f25_C Tryd.f25 [.w (.one (.p (.sl 15 es_27 full_28))),.w (.one (.p (.sl 1 es_29 full_30))),I n_31] [] K:=by kernel_rfl
set_option maxHeartbeats 4000000 in
theorem f25_ok0 : FnOk Tryd.prog glob 25 f25_G0:=by
  refine FnOk.of_text (C:=f25_C) tab_ok.ok (Known.add f45_G_ok (Known.none)) follows_ok (fn:=Tryd.f25) (by kernel_rfl) (by kernel_rfl) (by kernel_rfl) (fun c hc=>?_) fun tm hp K h=>?_
  · have e : c = bodyOf Tryd.f25:=Option.some.inj (hc.symm.trans (by kernel_rfl))
    subst e
    exact ⟨LoopsOk.of [bd Tryd.f25 0] (by kernel_rfl) ⟨f25_p4_ok,trivial⟩,TailsOk.of (tab:=f25_tab) rfl [] (by kernel_rfl) trivial⟩
  · unfold f25_G0 at h
    obtain ⟨xx,yy,rfl,rfl,h⟩:=getS_elim h
    have e:=(f25_eq xx.1.1 xx.1.2 xx.2.1.1 xx.2.1.2 xx.2.2.1 K).trans (show _ = funcT f25_C Tryd.f25 (mkR _ xx) (mkE _ yy) K by kernel_rfl)
    rw [← e]
    exact h.run
abbrev f25_G:=f25_G0
theorem f25_G_ok : FnOk Tryd.prog glob 25 f25_G:=f25_ok0
def f26_p18b0 (i10 n11 : Nat) (n12 : Int) (i13 n14 : Nat) (n15 : Int) (es16 : LL) (N0 : Int→Int→(LL)→Prop) (k0 : Int→(LL)→Prop) : Prop:=bB (decide (n15 < (n14 : Int))) ((0≤n15∧n15 < (n14 : Int))∧oI .i64 (ext (List.getD es16 (i13 + (Int.toNat n15)) []) 0 1) fun n17=>(0≤(w64 (n15 - 1))∧(w64 (n15 - 1)) < (n14 : Int))∧oI .i64 (ext (List.getD es16 (i13 + (Int.toNat (w64 (n15 - 1)))) []) 0 1) fun n18=>bB (n17 != n18) ((0≤n15∧n15 < (n14 : Int))∧oI .i64 (ext (List.getD es16 (i13 + (Int.toNat n15)) []) 0 1) fun n19=>(0≤n12∧n12 < (n11 : Int))∧(i10 + (Int.toNat n12)) < es16.length∧N0 (w64 (n12 + 1)) (w64 (n15 + 1)) (List.set es16 (i10 + (Int.toNat n12)) (splice (List.getD es16 (i10 + (Int.toNat n12)) []) 0 [pI n19]))) (N0 n12 (w64 (n15 + 1)) es16)) (k0 n12 es16)
def f26_p18 (i10 n11 : Nat) (i13 n14 : Nat) (k0 : Int→(LL)→Prop) : Int×Int×(LL)→Prop:=LoopP fun x N=>f26_p18b0 i10 n11 x.1 i13 n14 x.2.1 x.2.2 (fun n12 n15 es16=>N (n12,n15,es16)) k0
def f26_p8b0 (i4 n5 : Nat) (n6 : Int) (es7 : LL) (N0 : Int→Prop) (k0 : Nat→Nat→(LL)→Prop) (k1 : Unit→Prop) : Prop:=bB (decide (n6 < (n5 : Int))) ((0≤n6∧n6 < (n5 : Int))∧oI .i64 (ext (List.getD es7 (i4 + (Int.toNat n6)) []) 0 1) fun n8=>(0≤(w64 (n6 - 1))∧(w64 (n6 - 1)) < (n5 : Int))∧oI .i64 (ext (List.getD es7 (i4 + (Int.toNat (w64 (n6 - 1)))) []) 0 1) fun n9=>bB (n8 == n9) ((0≤n6∧n6≤(n5 : Int)∧(n5 : Int)≤(n5 : Int))∧f26_p18 i4 n5 (i4 + (Int.toNat n6)) ((Int.toNat (n5 : Int)) - (Int.toNat n6)) (fun n20 es21=>(0≤n20∧n20≤(n5 : Int)∧(n5 : Int)≤(n5 : Int))∧((i4 + (Int.toNat n20)) + ((Int.toNat (n5 : Int)) - (Int.toNat n20)))≤es21.length∧(0≤(0 : Int)∧(0 : Int)≤n20∧n20≤(n5 : Int))∧k0 (i4 + 0) ((Int.toNat n20) - 0) (splice es21 (i4 + (Int.toNat n20)) (List.replicate ((Int.toNat (n5 : Int)) - (Int.toNat n20)) [pI 0]))) (n6,1,es7)) (N0 (w64 (n6 + 1)))) (k1 ())
def f26_p8 (i4 n5 : Nat) (es7 : LL) (k0 : Nat→Nat→(LL)→Prop) (k1 : Unit→Prop) : Int→Prop:=LoopP fun x N=>f26_p8b0 i4 n5 x es7 (fun n6=>N n6) k0 k1
def f26_d (i1 n2 : Nat) (es3 : LL) (k0 : Nat→Nat→(LL)→Prop) : Prop:=bB (decide ((n2 : Int) < 2)) (k0 i1 n2 es3) (f26_p8 i1 n2 es3 (fun i22 n23 es24=>k0 i22 n23 es24) (fun (_ : Unit)=>k0 i1 n2 es3) 1)
structure f26 (i1 n2 : Nat) (es3 : LL) (k0 : Nat→Nat→(LL)→Prop) : Prop where
  run : f26_d i1 n2 es3 k0
def f26_p18L : Told:=fun s K=>match s with
  | ⟨tm,hp⟩=>getS [.v (.one (.ref 0)),.skip 2,.v (.one (.int .i64)),.v (.one (.ref 0)),.v (.one (.int .i64)),.skip 55] [.vec 1 true] tm hp fun (xx : ((Nat×Nat)×(Unit×(Int×((Nat×Nat)×(Int×(Unit×Unit))))))) (yy : ((LL)×Unit))=>f26_p18 xx.1.1 xx.1.2 xx.2.2.2.1.1 xx.2.2.2.1.2 (fun n0_0 es0_1=>K (.exit 2) ⟨mkS 61 [(0,.w (.one (.ref 0 xx.1.1 xx.1.2))),(3,I n0_0)],[.vec 1 es0_1 true]⟩) (xx.2.2.1,xx.2.2.2.2.1,yy.1)
def f26_p8L : Told:=fun s K=>match s with
  | ⟨tm,hp⟩=>getS [.v (.one (.ref 0)),.skip 2,.v (.one (.int .i64)),.skip 57] [.vec 1 true] tm hp fun (xx : ((Nat×Nat)×(Unit×(Int×(Unit×Unit))))) (yy : ((LL)×Unit))=>f26_p8 xx.1.1 xx.1.2 yy.1 (fun i0_2 n0_3 es0_4=>K .ret ⟨mkS 61 [(2,.w (.one (.ref 0 i0_2 n0_3)))],[.vec 1 es0_4 true]⟩) (fun (_ : Unit)=>K (.exit 0) ⟨mkS 61 [(0,.w (.one (.ref 0 xx.1.1 xx.1.2)))],[.vec 1 yy.1 true]⟩) xx.2.2.1
def f26_tab : List (Nat×Told):=[(18,f26_p18L),(8,f26_p8L)]
def f26_call : FuncId→List TV→List Entry→(TV→List Entry→Prop)→Prop:=noCalls
def f26_C : Ctx:=mkC [(18,[(0,[0,3,4,5]),(2,[2]),(3,[0]),(4,[0,3]),(5,[0,3])]),(8,[(0,[0,3]),(2,[2]),(3,[0])])] [] [] [] [] true 1 false (lookL f26_tab) f26_call
def f26_p18_mk (i10 n11 : Nat) (i13 n14 : Nat) (x : Int×Int×(LL)) : St:=⟨mkS 61 [(0,.w (.one (.ref 0 i10 n11))),(3,I x.1),(4,.w (.one (.ref 0 i13 n14))),(5,I x.2.1)],[.vec 1 x.2.2 true]⟩
theorem f26_p18e0 (i_15 n_16 : Nat) (n_17 : Int) (i_18 n_19 : Nat) (n_20 : Int) (es_21 : LL) (N : St→Prop) (K : TExit→St→Prop) : (f26_p18b0 i_15 n_16 n_17 i_18 n_19 n_20 es_21 (fun z2 z5 z6=>N (f26_p18_mk i_15 n_16 i_18 n_19 (z2,z5,z6))) (fun n0_22 es0_23=>K (.exit 2) ⟨mkS 61 [(0,.w (.one (.ref 0 i_15 n_16))),(3,I n0_22)],[.vec 1 es0_23 true]⟩)) = execT f26_C (bd Tryd.f26 1) (f26_p18_mk i_15 n_16 i_18 n_19 (n_17,n_20,es_21)) (loopK N (normK f26_C 18) fun e s=>K e (normOut f26_C 18 e s)):=by kernel_rfl
def f26_p8_mk (i4 n5 : Nat) (es7 : LL) (x : Int) : St:=⟨mkS 61 [(0,.w (.one (.ref 0 i4 n5))),(3,I x)],[.vec 1 es7 true]⟩
theorem f26_p8e0 (i_28 n_29 : Nat) (n_30 : Int) (es_31 : LL) (N : St→Prop) (K : TExit→St→Prop) : (f26_p8b0 i_28 n_29 n_30 es_31 (fun z2=>N (f26_p8_mk i_28 n_29 es_31 z2)) (fun i0_32 n0_33 es0_34=>K .ret ⟨mkS 61 [(2,.w (.one (.ref 0 i0_32 n0_33)))],[.vec 1 es0_34 true]⟩) (fun (_ : Unit)=>K (.exit 0) ⟨mkS 61 [(0,.w (.one (.ref 0 i_28 n_29)))],[.vec 1 es_31 true]⟩)) = execT f26_C (bd Tryd.f26 0) (f26_p8_mk i_28 n_29 es_31 n_30) (loopK N (normK f26_C 8) fun e s=>K e (normOut f26_C 8 e s)):=by kernel_rfl
set_option maxHeartbeats 4000000 in
theorem f26_p18_ok : LoopOk f26_C (bd Tryd.f26 1):=by
  refine LoopOk.of f26_p18L (by kernel_rfl) fun σ K h=>?_
  have hk : loopKey (bd Tryd.f26 1) = 18:=by kernel_rfl
  rw [hk] at h ⊢
  generalize hs : normK f26_C 18 σ = s at h
  obtain ⟨tm,hp⟩:=s
  unfold f26_p18L at h
  dsimp only at h
  obtain ⟨xx,yy,rfl,rfl,h⟩:=getS_elim h
  refine iter_of (f26_p18_mk xx.1.1 xx.1.2 xx.2.2.2.1.1 xx.2.2.2.1.2) (fun x N h=>?_) rounds _ σ (hs.trans (by kernel_rfl)) (LoopP.run h)
  obtain ⟨y0,y1,y2⟩:=x
  rw [← f26_p18e0 xx.1.1 xx.1.2 y0 xx.2.2.2.1.1 xx.2.2.2.1.2 y1 y2 N K]
  exact h
set_option maxHeartbeats 4000000 in
theorem f26_p8_ok : LoopOk f26_C (bd Tryd.f26 0):=by
  refine LoopOk.of f26_p8L (by kernel_rfl) fun σ K h=>?_
  have hk : loopKey (bd Tryd.f26 0) = 8:=by kernel_rfl
  rw [hk] at h ⊢
  generalize hs : normK f26_C 8 σ = s at h
  obtain ⟨tm,hp⟩:=s
  unfold f26_p8L at h
  dsimp only at h
  obtain ⟨xx,yy,rfl,rfl,h⟩:=getS_elim h
  refine iter_of (f26_p8_mk xx.1.1 xx.1.2 yy.1) (fun x N h=>?_) rounds _ σ (hs.trans (by kernel_rfl)) (LoopP.run h)
  rw [← f26_p8e0 xx.1.1 xx.1.2 x yy.1 N K]
  exact h
def f26_G0 : List TV→List Entry→(TV→List Entry→Prop)→Prop:=fun tm hp K=>getS [.v (.one (.ref 0))] [.vec 1 true] tm hp fun (xx : ((Nat×Nat)×Unit)) (yy : ((LL)×Unit))=>f26 xx.1.1 xx.1.2 yy.1 (fun i0_5 n0_6 es0_7=>K (.w (.one (.ref 0 i0_5 n0_6))) [.vec 1 es0_7 true])
theorem f26_eq (i_35 n_36 : Nat) (es_37 : LL) (K : TV→List Entry→Prop) : (f26_d i_35 n_36 es_37 (fun i0_5 n0_6 es0_7=>K (.w (.one (.ref 0 i0_5 n0_6))) [.vec 1 es0_7 true])) = funcT f26_C Tryd.f26 [.w (.one (.ref 0 i_35 n_36))] [.vec 1 es_37 true] K:=by kernel_rfl
set_option maxHeartbeats 4000000 in
theorem f26_ok0 : FnOk Tryd.prog glob 26 f26_G0:=by
  refine FnOk.of_text (C:=f26_C) tab_ok.ok (Known.none) follows_ok (fn:=Tryd.f26) (by kernel_rfl) (by kernel_rfl) (by kernel_rfl) (fun c hc=>?_) fun tm hp K h=>?_
  · have e : c = bodyOf Tryd.f26:=Option.some.inj (hc.symm.trans (by kernel_rfl))
    subst e
    exact ⟨LoopsOk.of [bd Tryd.f26 0,bd Tryd.f26 1] (by kernel_rfl) ⟨f26_p8_ok,f26_p18_ok,trivial⟩,TailsOk.of (tab:=f26_tab) rfl [] (by kernel_rfl) trivial⟩
  · unfold f26_G0 at h
    obtain ⟨xx,yy,rfl,rfl,h⟩:=getS_elim h
    have e:=(f26_eq xx.1.1 xx.1.2 yy.1 K).trans (show _ = funcT f26_C Tryd.f26 (mkR _ xx) (mkE _ yy) K by kernel_rfl)
    rw [← e]
    exact h.run
abbrev f26_G:=f26_G0
theorem f26_G_ok : FnOk Tryd.prog glob 26 f26_G:=f26_ok0
def f13_p20b0 (es28 : LL) (full29 : Bool) (es30 : LL) (full31 : Bool) (n32 : Int) (i33 n34 : Nat) (i35 n36 : Nat) (i37 n38 : Nat) (n39 n40 : Int) (es41 : LL) (full42 : Bool) (n43 n44 : Int) (es45 es46 : LL) (N0 : Nat→Nat→Int→(LL)→Prop) (k0 : Nat→Nat→(LL)→Prop) : Prop:=bB (decide (n44 < n43)) ((0≤n44∧n44 < (es41.length : Int))∧cI .i64 (ext (List.getD es41 (Int.toNat n44) []) 0 3) fun n48 r47=>cI .i64 r47 fun n50 r49=>cI .i64 r49 fun n52 r51=>nilC r51 <| (i35 + n36)≤es46.length∧(n36 + 1) * 8≤2 ^ 47 + 2 ^ 30∧(n36 + 1)≤2 ^ 47 + 2 ^ 30∧N0 0 (n36 + 1) (w64 (n44 + 1)) ((List.take n36 (List.drop i35 es46)) ++ [[pI n48]])) (k0 i35 n36 es46)
def f13_p20 (es28 : LL) (full29 : Bool) (es30 : LL) (full31 : Bool) (n32 : Int) (i33 n34 : Nat) (i37 n38 : Nat) (n39 n40 : Int) (es41 : LL) (full42 : Bool) (n43 : Int) (es45 : LL) (k0 : Nat→Nat→(LL)→Prop) : Nat×Nat×Int×(LL)→Prop:=LoopP fun x N=>f13_p20b0 es28 full29 es30 full31 n32 i33 n34 x.1 x.2.1 i37 n38 n39 n40 es41 full42 n43 x.2.2.1 es45 x.2.2.2 (fun i35 n36 n44 es46=>N (i35,n36,n44,es46)) k0
def f13_p14b0 (es10 : LL) (full11 : Bool) (es12 : LL) (full13 : Bool) (n14 : Int) (i15 n16 : Nat) (i17 n18 : Nat) (i19 n20 : Nat) (n21 n22 : Int) (es23 es24 : LL) (N0 : Nat→Nat→Int→(LL)→Prop) (k0 : Nat→Nat→(LL)→Prop) : Prop:=bB (decide (n22 < n21)) ((0≤n22∧n22 < (n20 : Int))∧oI .i64 (ext (List.getD es23 (i19 + (Int.toNat n22)) []) 0 1) fun n25=>(0≤n25∧n25 < (es10.length : Int))∧oL 3 (ext (List.getD es10 (Int.toNat n25) []) 14 1) fun es26 full27=>f13_p20 es10 full11 es12 full13 n14 i15 n16 i19 n20 n21 n22 es26 full27 (es26.length : Int) es23 (fun i53 n54 es55=>N0 i53 n54 (w64 (n22 + 1)) es55) (i17,n18,0,es24)) (k0 i17 n18 es24)
def f13_p14 (es10 : LL) (full11 : Bool) (es12 : LL) (full13 : Bool) (n14 : Int) (i15 n16 : Nat) (i19 n20 : Nat) (n21 : Int) (es23 : LL) (k0 : Nat→Nat→(LL)→Prop) : Nat×Nat×Int×(LL)→Prop:=LoopP fun x N=>f13_p14b0 es10 full11 es12 full13 n14 i15 n16 x.1 x.2.1 i19 n20 n21 x.2.2.1 es23 x.2.2.2 (fun i17 n18 n22 es24=>N (i17,n18,n22,es24)) k0
def f13_p42b0 (es80 : LL) (full81 : Bool) (i82 n83 : Nat) (n84 : Int) (i85 n86 : Nat) (i87 n88 : Nat) (n89 n90 : Int) (es91 : LL) (n92 n93 : Int) (es94 es95 : LL) (N0 : Int→Nat→Nat→Int→Int→Int→(LL)→Prop) (k0 : Nat→Nat→(LL)→Prop) : Prop:=bB (decide (n90 < n89)) ((0≤n90∧n90 < (n88 : Int))∧oI .i64 (ext (List.getD es95 (i87 + (Int.toNat n90)) []) 0 1) fun n96=>f25 es80 full81 (List.take n83 (List.drop i82 es91)) false n96 (fun n97 n98 n99=>bB (n97 != n84) ((i85 + n86)≤es94.length∧(n86 + 1) * 8≤2 ^ 47 + 2 ^ 30∧(n86 + 1)≤2 ^ 47 + 2 ^ 30∧N0 n97 0 (n86 + 1) (w64 (n90 + 1)) n98 n99 ((List.take n86 (List.drop i85 es94)) ++ [[pI n96]])) (bB (!((n98 == n92) && ((n99 == n93) && true))) ((i85 + n86)≤es94.length∧(n86 + 1) * 8≤2 ^ 47 + 2 ^ 30∧(n86 + 1)≤2 ^ 47 + 2 ^ 30∧N0 n97 0 (n86 + 1) (w64 (n90 + 1)) n98 n99 ((List.take n86 (List.drop i85 es94)) ++ [[pI n96]])) (N0 n97 i85 n86 (w64 (n90 + 1)) n98 n99 es94)))) (k0 i85 n86 es94)
def f13_p42 (es80 : LL) (full81 : Bool) (i82 n83 : Nat) (i87 n88 : Nat) (n89 : Int) (es91 es95 : LL) (k0 : Nat→Nat→(LL)→Prop) : Int×Nat×Nat×Int×Int×Int×(LL)→Prop:=LoopP fun x N=>f13_p42b0 es80 full81 i82 n83 x.1 x.2.1 x.2.2.1 i87 n88 n89 x.2.2.2.1 es91 x.2.2.2.2.1 x.2.2.2.2.2.1 x.2.2.2.2.2.2 es95 (fun n84 i85 n86 n90 n92 n93 es94=>N (n84,i85,n86,n90,n92,n93,es94)) k0
def f13_p39 (es66 : LL) (full67 : Bool) (i68 n69 : Nat) (i70 n71 : Nat) (n72 : Int) (es73 es74 : LL) (n75 n76 : Int) (k0 : Nat→Nat→Int→(LL)→Prop) : Prop:=f26 i70 n71 es74 (fun i77 n78 es79=>f13_p42 es66 full67 i68 n69 i77 n78 (n78 : Int) es73 es79 (fun i100 n101 es102=>k0 i100 n101 0 es102) (n72,0,0,0,n75,n76,[]))
def f13_d (es1 : LL) (full2 : Bool) (es3 : LL) (full4 : Bool) (n5 : Int) (k0 : (LL)→Bool→Int→Prop) : Prop:=f22 es1 full2 es3 full4 n5 (fun n6=>bB (n6 != 0) (k0 [] true n6) (f23 es1 full2 es3 full4 n5 (fun i7 n8 es9=>f13_p14 es1 full2 es3 full4 n5 i7 n8 i7 n8 (n8 : Int) es9 (fun i56 n57 es58=>f24 i56 n57 es58 (fun es59=>bB (decide (n5 > 0)) (f23 es1 full2 es3 full4 (w64 (n5 - 1)) (fun i60 n61 es62=>f25 es1 full2 (List.take n61 (List.drop i60 es62)) false 1439 (fun n63 n64 n65=>f13_p39 es1 full2 i7 n8 i56 n57 n63 es9 es59 n64 n65 (fun i103 n104 n105 es106=>k0 (List.take n104 (List.drop i103 es106)) false n105)))) (f13_p39 es1 full2 i7 n8 i56 n57 (-1) es9 es59 0 0 (fun i107 n108 n109 es110=>k0 (List.take n108 (List.drop i107 es110)) false n109)))) (0,1,0,[[pI 0]]))))
structure f13 (es1 : LL) (full2 : Bool) (es3 : LL) (full4 : Bool) (n5 : Int) (k0 : (LL)→Bool→Int→Prop) : Prop where
  run : f13_d es1 full2 es3 full4 n5 k0
def f13_p20L : Told:=fun s K=>match s with
  | ⟨tm,hp⟩=>getS [.v (.one (.sl 15)),.v (.one (.sl 2)),.v (.one (.int .i64)),.skip 6,.v (.one (.ref 0)),.v (.one (.ref 1)),.skip 23,.v (.one (.ref 0)),.v (.one (.int .i64)),.v (.one (.int .i64)),.skip 7,.v (.one (.sl 3)),.v (.one (.int .i64)),.v (.one (.int .i64)),.skip 55] [.vec 1 true,.vec 1 true] tm hp fun (xx : ((LL×Bool)×((LL×Bool)×(Int×(Unit×((Nat×Nat)×((Nat×Nat)×(Unit×((Nat×Nat)×(Int×(Int×(Unit×((LL×Bool)×(Int×(Int×(Unit×Unit)))))))))))))))) (yy : ((LL)×((LL)×Unit)))=>f13_p20 xx.1.1 xx.1.2 xx.2.1.1 xx.2.1.2 xx.2.2.1 xx.2.2.2.2.1.1 xx.2.2.2.2.1.2 xx.2.2.2.2.2.2.2.1.1 xx.2.2.2.2.2.2.2.1.2 xx.2.2.2.2.2.2.2.2.1 xx.2.2.2.2.2.2.2.2.2.1 xx.2.2.2.2.2.2.2.2.2.2.2.1.1 xx.2.2.2.2.2.2.2.2.2.2.2.1.2 xx.2.2.2.2.2.2.2.2.2.2.2.2.1 yy.1 (fun i0_0 n0_1 es0_2=>K (.exit 2) ⟨mkS 102 [(0,.w (.one (.p (.sl 15 xx.1.1 xx.1.2)))),(1,.w (.one (.p (.sl 2 xx.2.1.1 xx.2.1.2)))),(2,I xx.2.2.1),(9,.w (.one (.ref 0 xx.2.2.2.2.1.1 xx.2.2.2.2.1.2))),(10,.w (.one (.ref 1 i0_0 n0_1))),(34,.w (.one (.ref 0 xx.2.2.2.2.2.2.2.1.1 xx.2.2.2.2.2.2.2.1.2))),(35,I xx.2.2.2.2.2.2.2.2.1),(36,I xx.2.2.2.2.2.2.2.2.2.1)],[.vec 1 yy.1 true,.vec 1 es0_2 true]⟩) (xx.2.2.2.2.2.1.1,xx.2.2.2.2.2.1.2,xx.2.2.2.2.2.2.2.2.2.2.2.2.2.1,yy.2.1)
def f13_p14L : Told:=fun s K=>match s with
  | ⟨tm,hp⟩=>getS [.v (.one (.sl 15)),.v (.one (.sl 2)),.v (.one (.int .i64)),.skip 6,.v (.one (.ref 0)),.v (.one (.ref 1)),.skip 23,.v (.one (.ref 0)),.v (.one (.int .i64)),.v (.one (.int .i64)),.skip 65] [.vec 1 true,.vec 1 true] tm hp fun (xx : ((LL×Bool)×((LL×Bool)×(Int×(Unit×((Nat×Nat)×((Nat×Nat)×(Unit×((Nat×Nat)×(Int×(Int×(Unit×Unit)))))))))))) (yy : ((LL)×((LL)×Unit)))=>f13_p14 xx.1.1 xx.1.2 xx.2.1.1 xx.2.1.2 xx.2.2.1 xx.2.2.2.2.1.1 xx.2.2.2.2.1.2 xx.2.2.2.2.2.2.2.1.1 xx.2.2.2.2.2.2.2.1.2 xx.2.2.2.2.2.2.2.2.1 yy.1 (fun i0_3 n0_4 es0_5=>K (.exit 0) ⟨mkS 102 [(0,.w (.one (.p (.sl 15 xx.1.1 xx.1.2)))),(1,.w (.one (.p (.sl 2 xx.2.1.1 xx.2.1.2)))),(2,I xx.2.2.1),(9,.w (.one (.ref 0 xx.2.2.2.2.1.1 xx.2.2.2.2.1.2))),(10,.w (.one (.ref 1 i0_3 n0_4)))],[.vec 1 yy.1 true,.vec 1 es0_5 true]⟩) (xx.2.2.2.2.2.1.1,xx.2.2.2.2.2.1.2,xx.2.2.2.2.2.2.2.2.2.1,yy.2.1)
def f13_p42L : Told:=fun s K=>match s with
  | ⟨tm,hp⟩=>getS [.v (.one (.sl 15)),.skip 8,.v (.one (.ref 0)),.skip 5,.v (.one (.int .i64)),.v (.one (.ptr 1 0 0)),.v (.one (.ref 2)),.skip 55,.v (.one (.ref 3)),.v (.one (.int .i64)),.v (.one (.int .i64)),.skip 26] [.vec 1 true,.box [.int .i64,.int .i64],.vec 1 true,.vec 1 true] tm hp fun (xx : ((LL×Bool)×(Unit×((Nat×Nat)×(Unit×(Int×(Unit×((Nat×Nat)×(Unit×((Nat×Nat)×(Int×(Int×(Unit×Unit))))))))))))) (yy : ((LL)×((Int×(Int×Unit))×((LL)×((LL)×Unit)))))=>f13_p42 xx.1.1 xx.1.2 xx.2.2.1.1 xx.2.2.1.2 xx.2.2.2.2.2.2.2.2.1.1 xx.2.2.2.2.2.2.2.2.1.2 xx.2.2.2.2.2.2.2.2.2.1 yy.1 yy.2.2.2.1 (fun i0_6 n0_7 es0_8=>K (.exit 4) ⟨mkS 102 [(17,.w (.one (.ref 0 i0_6 n0_7)))],[.vec 1 es0_8 true]⟩) (xx.2.2.2.2.1,xx.2.2.2.2.2.2.1.1,xx.2.2.2.2.2.2.1.2,xx.2.2.2.2.2.2.2.2.2.2.1,yy.2.1.1,yy.2.1.2.1,yy.2.2.1)
def f13_p39L : Told:=fun s K=>match s with
  | ⟨tm,hp⟩=>getS [.v (.one (.sl 15)),.skip 8,.v (.one (.ref 0)),.v (.one (.ref 1)),.skip 4,.v (.one (.int .i64)),.v (.one (.ptr 2 0 0)),.skip 85] [.vec 1 true,.vec 1 true,.box [.int .i64,.int .i64]] tm hp fun (xx : ((LL×Bool)×(Unit×((Nat×Nat)×((Nat×Nat)×(Unit×(Int×(Unit×(Unit×Unit))))))))) (yy : ((LL)×((LL)×((Int×(Int×Unit))×Unit))))=>f13_p39 xx.1.1 xx.1.2 xx.2.2.1.1 xx.2.2.1.2 xx.2.2.2.1.1 xx.2.2.2.1.2 xx.2.2.2.2.2.1 yy.1 yy.2.1 yy.2.2.1.1 yy.2.2.1.2.1 (fun i0_9 n0_10 n0_11 es0_12=>K .ret ⟨mkS 102 [(6,.w (.one (.ref 0 i0_9 n0_10))),(7,I n0_11)],[.vec 1 es0_12 true]⟩)
def f13_tab : List (Nat×Told):=[(20,f13_p20L),(14,f13_p14L),(42,f13_p42L),(39,f13_p39L)]
def f13_call : FuncId→List TV→List Entry→(TV→List Entry→Prop)→Prop:=addCall 26 f26_G (addCall 25 f25_G (addCall 24 f24_G (addCall 23 f23_G (addCall 22 f22_G (noCalls)))))
def f13_C : Ctx:=mkC [(20,[(0,[0,1,2,9,10,34,35,36,44,45,46]),(2,[6,7]),(3,[0,1,2,9,10]),(4,[0,1,2,9,10,34,35,36]),(5,[0,1,2,9,10,34,35,36])]),(14,[(0,[0,1,2,9,10,34,35,36]),(2,[6,7]),(3,[0,1,2,9,10])]),(42,[(0,[0,9,15,16,17,73,74,75]),(2,[6,7]),(7,[17])]),(39,[(0,[0,9,10,15,16]),(1,[6,7]),(2,[6,7])])] [] [(42,[17])] [] [] false 0 true (lookL f13_tab) f13_call
def f13_p20_mk (es28 : LL) (full29 : Bool) (es30 : LL) (full31 : Bool) (n32 : Int) (i33 n34 : Nat) (i37 n38 : Nat) (n39 n40 : Int) (es41 : LL) (full42 : Bool) (n43 : Int) (es45 : LL) (x : Nat×Nat×Int×(LL)) : St:=⟨mkS 102 [(0,.w (.one (.p (.sl 15 es28 full29)))),(1,.w (.one (.p (.sl 2 es30 full31)))),(2,I n32),(9,.w (.one (.ref 0 i33 n34))),(10,.w (.one (.ref 1 x.1 x.2.1))),(34,.w (.one (.ref 0 i37 n38))),(35,I n39),(36,I n40),(44,.w (.one (.p (.sl 3 es41 full42)))),(45,I n43),(46,I x.2.2.1)],[.vec 1 es45 true,.vec 1 x.2.2.2 true]⟩
theorem f13_p20e0 (es_35 : LL) (full_36 : Bool) (es_37 : LL) (full_38 : Bool) (n_39 : Int) (i_40 n_41 : Nat) (i_42 n_43 : Nat) (i_44 n_45 : Nat) (n_46 n_47 : Int) (es_48 : LL) (full_49 : Bool) (n_50 n_51 : Int) (es_52 es_53 : LL) (N : St→Prop) (K : TExit→St→Prop) : (f13_p20b0 es_35 full_36 es_37 full_38 n_39 i_40 n_41 i_42 n_43 i_44 n_45 n_46 n_47 es_48 full_49 n_50 n_51 es_52 es_53 (fun z7 z8 z16 z18=>N (f13_p20_mk es_35 full_36 es_37 full_38 n_39 i_40 n_41 i_44 n_45 n_46 n_47 es_48 full_49 n_50 es_52 (z7,z8,z16,z18))) (fun i0_54 n0_55 es0_56=>K (.exit 2) ⟨mkS 102 [(0,.w (.one (.p (.sl 15 es_35 full_36)))),(1,.w (.one (.p (.sl 2 es_37 full_38)))),(2,I n_39),(9,.w (.one (.ref 0 i_40 n_41))),(10,.w (.one (.ref 1 i0_54 n0_55))),(34,.w (.one (.ref 0 i_44 n_45))),(35,I n_46),(36,I n_47)],[.vec 1 es_52 true,.vec 1 es0_56 true]⟩)) = execT f13_C (bd Tryd.f13 1) (f13_p20_mk es_35 full_36 es_37 full_38 n_39 i_40 n_41 i_44 n_45 n_46 n_47 es_48 full_49 n_50 es_52 (i_42,n_43,n_51,es_53)) (loopK N (normK f13_C 20) fun e s=>K e (normOut f13_C 20 e s)):=by kernel_rfl
def f13_p14_mk (es10 : LL) (full11 : Bool) (es12 : LL) (full13 : Bool) (n14 : Int) (i15 n16 : Nat) (i19 n20 : Nat) (n21 : Int) (es23 : LL) (x : Nat×Nat×Int×(LL)) : St:=⟨mkS 102 [(0,.w (.one (.p (.sl 15 es10 full11)))),(1,.w (.one (.p (.sl 2 es12 full13)))),(2,I n14),(9,.w (.one (.ref 0 i15 n16))),(10,.w (.one (.ref 1 x.1 x.2.1))),(34,.w (.one (.ref 0 i19 n20))),(35,I n21),(36,I x.2.2.1)],[.vec 1 es23 true,.vec 1 x.2.2.2 true]⟩
theorem f13_p14e0 (es_72 : LL) (full_73 : Bool) (es_74 : LL) (full_75 : Bool) (n_76 : Int) (i_77 n_78 : Nat) (i_79 n_80 : Nat) (i_81 n_82 : Nat) (n_83 n_84 : Int) (es_85 es_86 : LL) (N : St→Prop) (K : TExit→St→Prop) : (f13_p14b0 es_72 full_73 es_74 full_75 n_76 i_77 n_78 i_79 n_80 i_81 n_82 n_83 n_84 es_85 es_86 (fun z7 z8 z12 z14=>N (f13_p14_mk es_72 full_73 es_74 full_75 n_76 i_77 n_78 i_81 n_82 n_83 es_85 (z7,z8,z12,z14))) (fun i0_87 n0_88 es0_89=>K (.exit 0) ⟨mkS 102 [(0,.w (.one (.p (.sl 15 es_72 full_73)))),(1,.w (.one (.p (.sl 2 es_74 full_75)))),(2,I n_76),(9,.w (.one (.ref 0 i_77 n_78))),(10,.w (.one (.ref 1 i0_87 n0_88)))],[.vec 1 es_85 true,.vec 1 es0_89 true]⟩)) = execT f13_C (bd Tryd.f13 0) (f13_p14_mk es_72 full_73 es_74 full_75 n_76 i_77 n_78 i_81 n_82 n_83 es_85 (i_79,n_80,n_84,es_86)) (loopK N (normK f13_C 14) fun e s=>K e (normOut f13_C 14 e s)):=by kernel_rfl
def f13_p42_mk (es80 : LL) (full81 : Bool) (i82 n83 : Nat) (i87 n88 : Nat) (n89 : Int) (es91 es95 : LL) (x : Int×Nat×Nat×Int×Int×Int×(LL)) : St:=⟨mkS 102 [(0,.w (.one (.p (.sl 15 es80 full81)))),(9,.w (.one (.ref 0 i82 n83))),(15,I x.1),(16,.w (.one (.ptr 1 0 0))),(17,.w (.one (.ref 2 x.2.1 x.2.2.1))),(73,.w (.one (.ref 3 i87 n88))),(74,I n89),(75,I x.2.2.2.1)],[.vec 1 es91 true,.box [.p (pI x.2.2.2.2.1),.p (pI x.2.2.2.2.2.1)],.vec 1 x.2.2.2.2.2.2 true,.vec 1 es95 true]⟩
theorem f13_p42e0 (es_106 : LL) (full_107 : Bool) (i_108 n_109 : Nat) (n_110 : Int) (i_111 n_112 : Nat) (i_113 n_114 : Nat) (n_115 n_116 : Int) (es_117 : LL) (n_118 n_119 : Int) (es_120 es_121 : LL) (N : St→Prop) (K : TExit→St→Prop) : (f13_p42b0 es_106 full_107 i_108 n_109 n_110 i_111 n_112 i_113 n_114 n_115 n_116 es_117 n_118 n_119 es_120 es_121 (fun z4 z5 z6 z10 z12 z13 z14=>N (f13_p42_mk es_106 full_107 i_108 n_109 i_113 n_114 n_115 es_117 es_121 (z4,z5,z6,z10,z12,z13,z14))) (fun i0_122 n0_123 es0_124=>K (.exit 4) ⟨mkS 102 [(17,.w (.one (.ref 0 i0_122 n0_123)))],[.vec 1 es0_124 true]⟩)) = execT f13_C (bd Tryd.f13 2) (f13_p42_mk es_106 full_107 i_108 n_109 i_113 n_114 n_115 es_117 es_121 (n_110,i_111,n_112,n_116,n_118,n_119,es_120)) (loopK N (normK f13_C 42) fun e s=>K e (normOut f13_C 42 e s)):=by kernel_rfl
theorem f13_p39e0 (es_125 : LL) (full_126 : Bool) (i_127 n_128 : Nat) (i_129 n_130 : Nat) (n_131 : Int) (es_132 es_133 : LL) (n_134 n_135 : Int) (K : TExit→St→Prop) : (f13_p39 es_125 full_126 i_127 n_128 i_129 n_130 n_131 es_132 es_133 n_134 n_135 (fun i0_136 n0_137 n0_138 es0_139=>K .ret ⟨mkS 102 [(6,.w (.one (.ref 0 i0_136 n0_137))),(7,I n0_138)],[.vec 1 es0_139 true]⟩)) = execT f13_C (nthC (tails (bodyOf Tryd.f13)) 20) ⟨mkS 102 [(0,.w (.one (.p (.sl 15 es_125 full_126)))),(9,.w (.one (.ref 0 i_127 n_128))),(10,.w (.one (.ref 1 i_129 n_130))),(15,I n_131),(16,.w (.one (.ptr 2 0 0)))],[.vec 1 es_132 true,.vec 1 es_133 true,.box [.p (pI n_134),.p (pI n_135)]]⟩ (fun e s=>K e (normOut f13_C 39 e s)):=by kernel_rfl
set_option maxHeartbeats 4000000 in
theorem f13_p20_ok : LoopOk f13_C (bd Tryd.f13 1):=by
  refine LoopOk.of f13_p20L (by kernel_rfl) fun σ K h=>?_
  have hk : loopKey (bd Tryd.f13 1) = 20:=by kernel_rfl
  rw [hk] at h ⊢
  generalize hs : normK f13_C 20 σ = s at h
  obtain ⟨tm,hp⟩:=s
  unfold f13_p20L at h
  dsimp only at h
  obtain ⟨xx,yy,rfl,rfl,h⟩:=getS_elim h
  refine iter_of (f13_p20_mk xx.1.1 xx.1.2 xx.2.1.1 xx.2.1.2 xx.2.2.1 xx.2.2.2.2.1.1 xx.2.2.2.2.1.2 xx.2.2.2.2.2.2.2.1.1 xx.2.2.2.2.2.2.2.1.2 xx.2.2.2.2.2.2.2.2.1 xx.2.2.2.2.2.2.2.2.2.1 xx.2.2.2.2.2.2.2.2.2.2.2.1.1 xx.2.2.2.2.2.2.2.2.2.2.2.1.2 xx.2.2.2.2.2.2.2.2.2.2.2.2.1 yy.1) (fun x N h=>?_) rounds _ σ (hs.trans (by kernel_rfl)) (LoopP.run h)
  obtain ⟨y0,y1,y2,y3⟩:=x
  rw [← f13_p20e0 xx.1.1 xx.1.2 xx.2.1.1 xx.2.1.2 xx.2.2.1 xx.2.2.2.2.1.1 xx.2.2.2.2.1.2 y0 y1 xx.2.2.2.2.2.2.2.1.1 xx.2.2.2.2.2.2.2.1.2 xx.2.2.2.2.2.2.2.2.1 xx.2.2.2.2.2.2.2.2.2.1 xx.2.2.2.2.2.2.2.2.2.2.2.1.1 xx.2.2.2.2.2.2.2.2.2.2.2.1.2 xx.2.2.2.2.2.2.2.2.2.2.2.2.1 y2 yy.1 y3 N K]
  exact h
set_option maxHeartbeats 4000000 in
theorem f13_p14_ok : LoopOk f13_C (bd Tryd.f13 0):=by
  refine LoopOk.of f13_p14L (by kernel_rfl) fun σ K h=>?_
  have hk : loopKey (bd Tryd.f13 0) = 14:=by kernel_rfl
  rw [hk] at h ⊢
  generalize hs : normK f13_C 14 σ = s at h
  obtain ⟨tm,hp⟩:=s
  unfold f13_p14L at h
  dsimp only at h
  obtain ⟨xx,yy,rfl,rfl,h⟩:=getS_elim h
  refine iter_of (f13_p14_mk xx.1.1 xx.1.2 xx.2.1.1 xx.2.1.2 xx.2.2.1 xx.2.2.2.2.1.1 xx.2.2.2.2.1.2 xx.2.2.2.2.2.2.2.1.1 xx.2.2.2.2.2.2.2.1.2 xx.2.2.2.2.2.2.2.2.1 yy.1) (fun x N h=>?_) rounds _ σ (hs.trans (by kernel_rfl)) (LoopP.run h)
  obtain ⟨y0,y1,y2,y3⟩:=x
  rw [← f13_p14e0 xx.1.1 xx.1.2 xx.2.1.1 xx.2.1.2 xx.2.2.1 xx.2.2.2.2.1.1 xx.2.2.2.2.1.2 y0 y1 xx.2.2.2.2.2.2.2.1.1 xx.2.2.2.2.2.2.2.1.2 xx.2.2.2.2.2.2.2.2.1 y2 yy.1 y3 N K]
  exact h
set_option maxHeartbeats 4000000 in
theorem f13_p42_ok : LoopOk f13_C (bd Tryd.f13 2):=by
  refine LoopOk.of f13_p42L (by kernel_rfl) fun σ K h=>?_
  have hk : loopKey (bd Tryd.f13 2) = 42:=by kernel_rfl
  rw [hk] at h ⊢
  generalize hs : normK f13_C 42 σ = s at h
  obtain ⟨tm,hp⟩:=s
  unfold f13_p42L at h
  dsimp only at h
  obtain ⟨xx,yy,rfl,rfl,h⟩:=getS_elim h
  refine iter_of (f13_p42_mk xx.1.1 xx.1.2 xx.2.2.1.1 xx.2.2.1.2 xx.2.2.2.2.2.2.2.2.1.1 xx.2.2.2.2.2.2.2.2.1.2 xx.2.2.2.2.2.2.2.2.2.1 yy.1 yy.2.2.2.1) (fun x N h=>?_) rounds _ σ (hs.trans (by kernel_rfl)) (LoopP.run h)
  obtain ⟨y0,y1,y2,y3,y4,y5,y6⟩:=x
  rw [← f13_p42e0 xx.1.1 xx.1.2 xx.2.2.1.1 xx.2.2.1.2 y0 y1 y2 xx.2.2.2.2.2.2.2.2.1.1 xx.2.2.2.2.2.2.2.2.1.2 xx.2.2.2.2.2.2.2.2.2.1 y3 yy.1 y4 y5 y6 yy.2.2.2.1 N K]
  exact h
set_option maxHeartbeats 4000000 in
theorem f13_p39_ok : TailOk f13_C (nthC (tails (bodyOf Tryd.f13)) 20):=by
  refine TailOk.of f13_p39L (by kernel_rfl) fun σ K h=>?_
  have hk : joinKey (nthC (tails (bodyOf Tryd.f13)) 20) = 39:=by kernel_rfl
  rw [hk] at h ⊢
  generalize hs : normK f13_C 39 σ = s at h
  obtain ⟨tm,hp⟩:=s
  unfold f13_p39L at h
  dsimp only at h
  obtain ⟨xx,yy,rfl,rfl,h⟩:=getS_elim h
  have q : normK f13_C 39 σ = (⟨mkS 102 [(0,.w (.one (.p (.sl 15 xx.1.1 xx.1.2)))),(9,.w (.one (.ref 0 xx.2.2.1.1 xx.2.2.1.2))),(10,.w (.one (.ref 1 xx.2.2.2.1.1 xx.2.2.2.1.2))),(15,I xx.2.2.2.2.2.1),(16,.w (.one (.ptr 2 0 0)))],[.vec 1 yy.1 true,.vec 1 yy.2.1 true,.box [.p (pI yy.2.2.1.1),.p (pI yy.2.2.1.2.1)]]⟩ : St):=hs.trans (by kernel_rfl)
  rw [← hs,q,← f13_p39e0 xx.1.1 xx.1.2 xx.2.2.1.1 xx.2.2.1.2 xx.2.2.2.1.1 xx.2.2.2.1.2 xx.2.2.2.2.2.1 yy.1 yy.2.1 yy.2.2.1.1 yy.2.2.1.2.1 K]
  exact h
def f13_G0 : List TV→List Entry→(TV→List Entry→Prop)→Prop:=fun tm hp K=>getS [.v (.one (.sl 15)),.v (.one (.sl 2)),.v (.one (.int .i64))] [] tm hp fun (xx : ((LL×Bool)×((LL×Bool)×(Int×Unit)))) (yy : Unit)=>f13 xx.1.1 xx.1.2 xx.2.1.1 xx.2.1.2 xx.2.2.1 (fun es0_13 full0_14 n0_15=>K (.tup [.one (.p (.sl 1 es0_13 full0_14)),.one (.p (pI n0_15))]) [])
theorem f13_eq (es_140 : LL) (full_141 : Bool) (es_142 : LL) (full_143 : Bool) (n_144 : Int) (K : TV→List Entry→Prop) : (f13_d es_140 full_141 es_142 full_143 n_144 (fun es0_13 full0_14 n0_15=>K (.tup [.one (.p (.sl 1 es0_13 full0_14)),.one (.p (pI n0_15))]) [])) = funcT f13_C Tryd.f13 [.w (.one (.p (.sl 15 es_140 full_141))),.w (.one (.p (.sl 2 es_142 full_143))),I n_144] [] K:=by kernel_rfl
set_option maxHeartbeats 4000000 in
theorem f13_ok0 : FnOk Tryd.prog glob 13 f13_G0:=by
  refine FnOk.of_text (C:=f13_C) tab_ok.ok (Known.add f26_G_ok (Known.add f25_G_ok (Known.add f24_G_ok (Known.add f23_G_ok (Known.add f22_G_ok (Known.none)))))) follows_ok (fn:=Tryd.f13) (by kernel_rfl) (by kernel_rfl) (by kernel_rfl) (fun c hc=>?_) fun tm hp K h=>?_
  · have e : c = bodyOf Tryd.f13:=Option.some.inj (hc.symm.trans (by kernel_rfl))
    subst e
    exact ⟨LoopsOk.of [bd Tryd.f13 0,bd Tryd.f13 1,bd Tryd.f13 2] (by kernel_rfl) ⟨f13_p14_ok,f13_p20_ok,f13_p42_ok,trivial⟩,TailsOk.of (tab:=f13_tab) rfl [nthC (tails (bodyOf Tryd.f13)) 20] (by kernel_rfl) ⟨f13_p39_ok,trivial⟩⟩
  · unfold f13_G0 at h
    obtain ⟨xx,yy,rfl,rfl,h⟩:=getS_elim h
    have e:=(f13_eq xx.1.1 xx.1.2 xx.2.1.1 xx.2.1.2 xx.2.2.1 K).trans (show _ = funcT f13_C Tryd.f13 (mkR _ xx) (mkE _ yy) K by kernel_rfl)
    rw [← e]
    exact h.run
abbrev f13_G:=f13_G0
theorem f13_G_ok : FnOk Tryd.prog glob 13 f13_G:=f13_ok0
def f14_p13 (es8 : LL) (full9 : Bool) (es10 : LL) (full11 : Bool) (n12 n13 : Int) (n14 n15 : Int) (k0 : Int→Int→Int→Int→Prop) : Prop:=f23 es8 full9 es10 full11 n12 (fun i16 n17 es18=>f25 es8 full9 (List.take n17 (List.drop i16 es18)) false n13 (fun n19 n20 n21=>k0 n19 0 n20 n21))
def f14_d (es1 : LL) (full2 : Bool) (es3 : LL) (full4 : Bool) (n5 n6 : Int) (k0 : Int→Int→Int→Int→Prop) : Prop:=f22 es1 full2 es3 full4 n5 (fun n7=>bB (n7 != 0) (k0 0 0 0 n7) (bB (decide (n6 < 0)) (k0 0 0 0 6) (bB (decide (n6≥1440)) (k0 0 0 0 6) (f14_p13 es1 full2 es3 full4 n5 n6 0 0 (fun n22 n23 n24 n25=>k0 n22 n24 n25 n23)))))
structure f14 (es1 : LL) (full2 : Bool) (es3 : LL) (full4 : Bool) (n5 n6 : Int) (k0 : Int→Int→Int→Int→Prop) : Prop where
  run : f14_d es1 full2 es3 full4 n5 n6 k0
def f14_p13L : Told:=fun s K=>match s with
  | ⟨tm,hp⟩=>getS [.v (.one (.sl 15)),.v (.one (.sl 2)),.v (.one (.int .i64)),.v (.one (.int .i64)),.skip 5,.v (.one (.ptr 0 0 0)),.skip 31] [.box [.int .i64,.int .i64]] tm hp fun (xx : ((LL×Bool)×((LL×Bool)×(Int×(Int×(Unit×(Unit×(Unit×Unit)))))))) (yy : ((Int×(Int×Unit))×Unit))=>f14_p13 xx.1.1 xx.1.2 xx.2.1.1 xx.2.1.2 xx.2.2.1 xx.2.2.2.1 yy.1.1 yy.1.2.1 (fun n0_0 n0_1 n0_2 n0_3=>K .ret ⟨mkS 41 [(8,I n0_0),(9,.w (.one (.ptr 0 0 0))),(10,I n0_1)],[.box [.p (pI n0_2),.p (pI n0_3)]]⟩)
def f14_tab : List (Nat×Told):=[(13,f14_p13L)]
def f14_call : FuncId→List TV→List Entry→(TV→List Entry→Prop)→Prop:=addCall 25 f25_G (addCall 23 f23_G (addCall 22 f22_G (noCalls)))
def f14_C : Ctx:=mkC [(13,[(0,[0,1,2,3,9]),(1,[8,9,10]),(2,[8,9,10])])] [] [] [] [] false 0 true (lookL f14_tab) f14_call
theorem f14_p13e0 (es_8 : LL) (full_9 : Bool) (es_10 : LL) (full_11 : Bool) (n_12 n_13 : Int) (n_14 n_15 : Int) (K : TExit→St→Prop) : (f14_p13 es_8 full_9 es_10 full_11 n_12 n_13 n_14 n_15 (fun n0_16 n0_17 n0_18 n0_19=>K .ret ⟨mkS 41 [(8,I n0_16),(9,.w (.one (.ptr 0 0 0))),(10,I n0_17)],[.box [.p (pI n0_18),.p (pI n0_19)]]⟩)) = execT f14_C (nthC (tails (bodyOf Tryd.f14)) 5) ⟨mkS 41 [(0,.w (.one (.p (.sl 15 es_8 full_9)))),(1,.w (.one (.p (.sl 2 es_10 full_11)))),(2,I n_12),(3,I n_13),(9,.w (.one (.ptr 0 0 0)))],[.box [.p (pI n_14),.p (pI n_15)]]⟩ (fun e s=>K e (normOut f14_C 13 e s)):=by kernel_rfl
set_option maxHeartbeats 4000000 in
theorem f14_p13_ok : TailOk f14_C (nthC (tails (bodyOf Tryd.f14)) 5):=by
  refine TailOk.of f14_p13L (by kernel_rfl) fun σ K h=>?_
  have hk : joinKey (nthC (tails (bodyOf Tryd.f14)) 5) = 13:=by kernel_rfl
  rw [hk] at h ⊢
  generalize hs : normK f14_C 13 σ = s at h
  obtain ⟨tm,hp⟩:=s
  unfold f14_p13L at h
  dsimp only at h
  obtain ⟨xx,yy,rfl,rfl,h⟩:=getS_elim h
  have q : normK f14_C 13 σ = (⟨mkS 41 [(0,.w (.one (.p (.sl 15 xx.1.1 xx.1.2)))),(1,.w (.one (.p (.sl 2 xx.2.1.1 xx.2.1.2)))),(2,I xx.2.2.1),(3,I xx.2.2.2.1),(9,.w (.one (.ptr 0 0 0)))],[.box [.p (pI yy.1.1),.p (pI yy.1.2.1)]]⟩ : St):=hs.trans (by kernel_rfl)
  rw [← hs,q,← f14_p13e0 xx.1.1 xx.1.2 xx.2.1.1 xx.2.1.2 xx.2.2.1 xx.2.2.2.1 yy.1.1 yy.1.2.1 K]
  exact h
def f14_G0 : List TV→List Entry→(TV→List Entry→Prop)→Prop:=fun tm hp K=>getS [.v (.one (.sl 15)),.v (.one (.sl 2)),.v (.one (.int .i64)),.v (.one (.int .i64))] [] tm hp fun (xx : ((LL×Bool)×((LL×Bool)×(Int×(Int×Unit))))) (yy : Unit)=>f14 xx.1.1 xx.1.2 xx.2.1.1 xx.2.1.2 xx.2.2.1 xx.2.2.2.1 (fun n0_4 n0_5 n0_6 n0_7=>K (.tup [.one (.p (pI n0_4)),.pagg [pI n0_5,pI n0_6],.one (.p (pI n0_7))]) [])
theorem f14_eq (es_20 : LL) (full_21 : Bool) (es_22 : LL) (full_23 : Bool) (n_24 n_25 : Int) (K : TV→List Entry→Prop) : (f14_d es_20 full_21 es_22 full_23 n_24 n_25 (fun n0_4 n0_5 n0_6 n0_7=>K (.tup [.one (.p (pI n0_4)),.pagg [pI n0_5,pI n0_6],.one (.p (pI n0_7))]) [])) = funcT f14_C Tryd.f14 [.w (.one (.p (.sl 15 es_20 full_21))),.w (.one (.p (.sl 2 es_22 full_23))),I n_24,I n_25] [] K:=by kernel_rfl
set_option maxHeartbeats 4000000 in
theorem f14_ok0 : FnOk Tryd.prog glob 14 f14_G0:=by
  refine FnOk.of_text (C:=f14_C) tab_ok.ok (Known.add f25_G_ok (Known.add f23_G_ok (Known.add f22_G_ok (Known.none)))) follows_ok (fn:=Tryd.f14) (by kernel_rfl) (by kernel_rfl) (by kernel_rfl) (fun c hc=>?_) fun tm hp K h=>?_
  · have e : c = bodyOf Tryd.f14:=Option.some.inj (hc.symm.trans (by kernel_rfl))
    subst e
    exact ⟨LoopsOk.of [] (by kernel_rfl) trivial,TailsOk.of (tab:=f14_tab) rfl [nthC (tails (bodyOf Tryd.f14)) 5] (by kernel_rfl) ⟨f14_p13_ok,trivial⟩⟩
  · unfold f14_G0 at h
    obtain ⟨xx,yy,rfl,rfl,h⟩:=getS_elim h
    have e:=(f14_eq xx.1.1 xx.1.2 xx.2.1.1 xx.2.1.2 xx.2.2.1 xx.2.2.2.1 K).trans (show _ = funcT f14_C Tryd.f14 (mkR _ xx) (mkE _ yy) K by kernel_rfl)
    rw [← e]
    exact h.run
abbrev f14_G:=f14_G0
theorem f14_G_ok : FnOk Tryd.prog glob 14 f14_G:=f14_ok0
def f17_d (es1 : LL) (full2 : Bool) (es3 : LL) (full4 : Bool) (n5 : Int) (k0 : (LL)→Bool→Int→Prop) : Prop:=f22 es1 full2 es3 full4 n5 (fun n6=>bB (n6 != 0) (k0 [] true n6) (f23 es1 full2 es3 full4 n5 (fun i7 n8 es9=>k0 (List.take n8 (List.drop i7 es9)) false 0)))
structure f17 (es1 : LL) (full2 : Bool) (es3 : LL) (full4 : Bool) (n5 : Int) (k0 : (LL)→Bool→Int→Prop) : Prop where
  run : f17_d es1 full2 es3 full4 n5 k0
def f17_tab : List (Nat×Told):=[]
def f17_call : FuncId→List TV→List Entry→(TV→List Entry→Prop)→Prop:=addCall 23 f23_G (addCall 22 f22_G (noCalls))
def f17_C : Ctx:=mkC [] [] [] [] [] false 0 true (lookL f17_tab) f17_call
def f17_G0 : List TV→List Entry→(TV→List Entry→Prop)→Prop:=fun tm hp K=>getS [.v (.one (.sl 15)),.v (.one (.sl 2)),.v (.one (.int .i64))] [] tm hp fun (xx : ((LL×Bool)×((LL×Bool)×(Int×Unit)))) (yy : Unit)=>f17 xx.1.1 xx.1.2 xx.2.1.1 xx.2.1.2 xx.2.2.1 (fun es0_0 full0_1 n0_2=>K (.tup [.one (.p (.sl 1 es0_0 full0_1)),.one (.p (pI n0_2))]) [])
theorem f17_eq (es_3 : LL) (full_4 : Bool) (es_5 : LL) (full_6 : Bool) (n_7 : Int) (K : TV→List Entry→Prop) : (f17_d es_3 full_4 es_5 full_6 n_7 (fun es0_0 full0_1 n0_2=>K (.tup [.one (.p (.sl 1 es0_0 full0_1)),.one (.p (pI n0_2))]) [])) = funcT f17_C Tryd.f17 [.w (.one (.p (.sl 15 es_3 full_4))),.w (.one (.p (.sl 2 es_5 full_6))),I n_7] [] K:=by kernel_rfl
set_option maxHeartbeats 4000000 in
theorem f17_ok0 : FnOk Tryd.prog glob 17 f17_G0:=by
  refine FnOk.of_text (C:=f17_C) tab_ok.ok (Known.add f23_G_ok (Known.add f22_G_ok (Known.none))) follows_ok (fn:=Tryd.f17) (by kernel_rfl) (by kernel_rfl) (by kernel_rfl) (fun c hc=>?_) fun tm hp K h=>?_
  · have e : c = bodyOf Tryd.f17:=Option.some.inj (hc.symm.trans (by kernel_rfl))
    subst e
    exact ⟨LoopsOk.of [] (by kernel_rfl) trivial,TailsOk.of (tab:=f17_tab) rfl [] (by kernel_rfl) trivial⟩
  · unfold f17_G0 at h
    obtain ⟨xx,yy,rfl,rfl,h⟩:=getS_elim h
    have e:=(f17_eq xx.1.1 xx.1.2 xx.2.1.1 xx.2.1.2 xx.2.2.1 K).trans (show _ = funcT f17_C Tryd.f17 (mkR _ xx) (mkE _ yy) K by kernel_rfl)
    rw [← e]
    exact h.run
abbrev f17_G:=f17_G0
theorem f17_G_ok : FnOk Tryd.prog glob 17 f17_G:=f17_ok0
def f18_p8b0 (es5 : LL) (full6 : Bool) (es7 : LL) (full8 : Bool) (n9 : Int) (N0 : Int→Prop) (k0 : Bool→Prop) (k1 : Unit→Prop) : Prop:=bB (decide (n9 < (es5.length : Int))) ((0≤n9∧n9 < (es5.length : Int))∧oI .i64 (ext (List.getD es5 (Int.toNat n9) []) 0 1) fun n10=>(0≤n9∧n9 < (es7.length : Int))∧oI .i64 (ext (List.getD es7 (Int.toNat n9) []) 0 1) fun n11=>bB (n10 != n11) (k0 false) (N0 (w64 (n9 + 1)))) (k1 ())
def f18_p8 (es5 : LL) (full6 : Bool) (es7 : LL) (full8 : Bool) (k0 : Bool→Prop) (k1 : Unit→Prop) : Int→Prop:=LoopP fun x N=>f18_p8b0 es5 full6 es7 full8 x (fun n9=>N n9) k0 k1
def f18_d (es1 : LL) (full2 : Bool) (es3 : LL) (full4 : Bool) (k0 : Bool→Prop) : Prop:=bB ((es1.length : Int) != (es3.length : Int)) (k0 false) (f18_p8 es1 full2 es3 full4 k0 (fun (_ : Unit)=>k0 true) 0)
structure f18 (es1 : LL) (full2 : Bool) (es3 : LL) (full4 : Bool) (k0 : Bool→Prop) : Prop where
  run : f18_d es1 full2 es3 full4 k0
def f18_p8L : Told:=fun s K=>match s with
  | ⟨tm,hp⟩=>getS [.v (.one (.sl 1)),.v (.one (.sl 1)),.skip 3,.v (.one (.int .i64)),.skip 20] [] tm hp fun (xx : ((LL×Bool)×((LL×Bool)×(Unit×(Int×(Unit×Unit)))))) (yy : Unit)=>f18_p8 xx.1.1 xx.1.2 xx.2.1.1 xx.2.1.2 (fun b0_0=>K .ret ⟨mkS 26 [(4,B b0_0)],[]⟩) (fun (_ : Unit)=>K (.exit 0) ⟨mkS 26 [],[]⟩) xx.2.2.2.1
def f18_tab : List (Nat×Told):=[(8,f18_p8L)]
def f18_call : FuncId→List TV→List Entry→(TV→List Entry→Prop)→Prop:=noCalls
def f18_C : Ctx:=mkC [(8,[(0,[0,1,5]),(2,[4]),(3,[])])] [] [] [] [] false 0 true (lookL f18_tab) f18_call
def f18_p8_mk (es5 : LL) (full6 : Bool) (es7 : LL) (full8 : Bool) (x : Int) : St:=⟨mkS 26 [(0,.w (.one (.p (.sl 1 es5 full6)))),(1,.w (.one (.p (.sl 1 es7 full8)))),(5,I x)],[]⟩
theorem f18_p8e0 (es_7 : LL) (full_8 : Bool) (es_9 : LL) (full_10 : Bool) (n_11 : Int) (N : St→Prop) (K : TExit→St→Prop) : (f18_p8b0 es_7 full_8 es_9 full_10 n_11 (fun z4=>N (f18_p8_mk es_7 full_8 es_9 full_10 z4)) (fun b0_12=>K .ret ⟨mkS 26 [(4,B b0_12)],[]⟩) (fun (_ : Unit)=>K (.exit 0) ⟨mkS 26 [],[]⟩)) = execT f18_C (bd Tryd.f18 0) (f18_p8_mk es_7 full_8 es_9 full_10 n_11) (loopK N (normK f18_C 8) fun e s=>K e (normOut f18_C 8 e s)):=by kernel_rfl
set_option maxHeartbeats 4000000 in
theorem f18_p8_ok : LoopOk f18_C (bd Tryd.f18 0):=by
  refine LoopOk.of f18_p8L (by kernel_rfl) fun σ K h=>?_
  have hk : loopKey (bd Tryd.f18 0) = 8:=by kernel_rfl
  rw [hk] at h ⊢
  generalize hs : normK f18_C 8 σ = s at h
  obtain ⟨tm,hp⟩:=s
  unfold f18_p8L at h
  dsimp only at h
  obtain ⟨xx,yy,rfl,rfl,h⟩:=getS_elim h
  refine iter_of (f18_p8_mk xx.1.1 xx.1.2 xx.2.1.1 xx.2.1.2) (fun x N h=>?_) rounds _ σ (hs.trans (by kernel_rfl)) (LoopP.run h)
  rw [← f18_p8e0 xx.1.1 xx.1.2 xx.2.1.1 xx.2.1.2 x N K]
  exact h
def f18_G0 : List TV→List Entry→(TV→List Entry→Prop)→Prop:=fun tm hp K=>getS [.v (.one (.sl 1)),.v (.one (.sl 1))] [] tm hp fun (xx : ((LL×Bool)×((LL×Bool)×Unit))) (yy : Unit)=>f18 xx.1.1 xx.1.2 xx.2.1.1 xx.2.1.2 (fun b0_1=>K (B b0_1) [])
theorem f18_eq (es_13 : LL) (full_14 : Bool) (es_15 : LL) (full_16 : Bool) (K : TV→List Entry→Prop) : (f18_d es_13 full_14 es_15 full_16 (fun b0_1=>K (B b0_1) [])) = funcT f18_C Tryd.f18 [.w (.one (.p (.sl 1 es_13 full_14))),.w (.one (.p (.sl 1 es_15 full_16)))] [] K:=by kernel_rfl
set_option maxHeartbeats 4000000 in
theorem f18_ok0 : FnOk Tryd.prog glob 18 f18_G0:=by
  refine FnOk.of_text (C:=f18_C) tab_ok.ok (Known.none) follows_ok (fn:=Tryd.f18) (by kernel_rfl) (by kernel_rfl) (by kernel_rfl) (fun c hc=>?_) fun tm hp K h=>?_
  · have e : c = bodyOf Tryd.f18:=Option.some.inj (hc.symm.trans (by kernel_rfl))
    subst e
    exact ⟨LoopsOk.of [bd Tryd.f18 0] (by kernel_rfl) ⟨f18_p8_ok,trivial⟩,TailsOk.of (tab:=f18_tab) rfl [] (by kernel_rfl) trivial⟩
  · unfold f18_G0 at h
    obtain ⟨xx,yy,rfl,rfl,h⟩:=getS_elim h
    have e:=(f18_eq xx.1.1 xx.1.2 xx.2.1.1 xx.2.1.2 K).trans (show _ = funcT f18_C Tryd.f18 (mkR _ xx) (mkE _ yy) K by kernel_rfl)
    rw [← e]
    exact h.run
abbrev f18_G:=f18_G0
theorem f18_G_ok : FnOk Tryd.prog glob 18 f18_G:=f18_ok0
def f8_d (k0 : Bool→Prop) : Prop:=f17 [[pS (⟨#[119,111,114,107,115]⟩ : ByteArray),pI 0,pI 0,pI 0,pI 0,pI 0,pI 0,pI 0,pI 0,pI 0,pI 0,pI 0,pS (⟨#[104,111,108,105,100,97,121,115]⟩ : ByteArray),pI 5,.sl 3 [[pI 0,pI 2,pI 0]] false],[pS (⟨#[112,97,114,116,121]⟩ : ByteArray),pI 2026,pI 12,pI 31,pI 0,pI 0,pI 0,pI 0,pI 0,pI 0,pI 0,pI 0,pS (⟨#[]⟩ : ByteArray),pI 3,.sl 3 [[pI 1080,pI 2,pI 1],[pI 1380,pI 0,pI 0]] false]] false [[pS (⟨#[104,111,108,105,100,97,121,115]⟩ : ByteArray),.sl 11 [[pI 0,pI 0,pI 0,pI 0,pI 0,pI 2026,pI 12,pI 24,pI 2026,pI 12,pI 31],[pI 0,pI 1,pI 1,pI 0,pI 0,pI 0,pI 0,pI 0,pI 0,pI 0,pI 0]] false]] false 9861 (fun es1 full2 n3=>f14 [[pS (⟨#[119,111,114,107,115]⟩ : ByteArray),pI 0,pI 0,pI 0,pI 0,pI 0,pI 0,pI 0,pI 0,pI 0,pI 0,pI 0,pS (⟨#[104,111,108,105,100,97,121,115]⟩ : ByteArray),pI 5,.sl 3 [[pI 0,pI 2,pI 0]] false],[pS (⟨#[112,97,114,116,121]⟩ : ByteArray),pI 2026,pI 12,pI 31,pI 0,pI 0,pI 0,pI 0,pI 0,pI 0,pI 0,pI 0,pS (⟨#[]⟩ : ByteArray),pI 3,.sl 3 [[pI 1080,pI 2,pI 1],[pI 1380,pI 0,pI 0]] false]] false [[pS (⟨#[104,111,108,105,100,97,121,115]⟩ : ByteArray),.sl 11 [[pI 0,pI 0,pI 0,pI 0,pI 0,pI 2026,pI 12,pI 24,pI 2026,pI 12,pI 31],[pI 0,pI 1,pI 1,pI 0,pI 0,pI 0,pI 0,pI 0,pI 0,pI 0,pI 0]] false]] false 9861 720 (fun n4 n5 n6 n7=>f14 [[pS (⟨#[119,111,114,107,115]⟩ : ByteArray),pI 0,pI 0,pI 0,pI 0,pI 0,pI 0,pI 0,pI 0,pI 0,pI 0,pI 0,pS (⟨#[104,111,108,105,100,97,121,115]⟩ : ByteArray),pI 5,.sl 3 [[pI 0,pI 2,pI 0]] false],[pS (⟨#[112,97,114,116,121]⟩ : ByteArray),pI 2026,pI 12,pI 31,pI 0,pI 0,pI 0,pI 0,pI 0,pI 0,pI 0,pI 0,pS (⟨#[]⟩ : ByteArray),pI 3,.sl 3 [[pI 1080,pI 2,pI 1],[pI 1380,pI 0,pI 0]] false]] false [[pS (⟨#[104,111,108,105,100,97,121,115]⟩ : ByteArray),.sl 11 [[pI 0,pI 0,pI 0,pI 0,pI 0,pI 2026,pI 12,pI 24,pI 2026,pI 12,pI 31],[pI 0,pI 1,pI 1,pI 0,pI 0,pI 0,pI 0,pI 0,pI 0,pI 0,pI 0]] false]] false 9861 1080 (fun n8 n9 n10 n11=>f13 [[pS (⟨#[119,111,114,107,115]⟩ : ByteArray),pI 0,pI 0,pI 0,pI 0,pI 0,pI 0,pI 0,pI 0,pI 0,pI 0,pI 0,pS (⟨#[104,111,108,105,100,97,121,115]⟩ : ByteArray),pI 5,.sl 3 [[pI 0,pI 2,pI 0]] false],[pS (⟨#[112,97,114,116,121]⟩ : ByteArray),pI 2026,pI 12,pI 31,pI 0,pI 0,pI 0,pI 0,pI 0,pI 0,pI 0,pI 0,pS (⟨#[]⟩ : ByteArray),pI 3,.sl 3 [[pI 1080,pI 2,pI 1],[pI 1380,pI 0,pI 0]] false]] false [[pS (⟨#[104,111,108,105,100,97,121,115]⟩ : ByteArray),.sl 11 [[pI 0,pI 0,pI 0,pI 0,pI 0,pI 2026,pI 12,pI 24,pI 2026,pI 12,pI 31],[pI 0,pI 1,pI 1,pI 0,pI 0,pI 0,pI 0,pI 0,pI 0,pI 0,pI 0]] false]] false 9861 (fun es12 full13 n14=>f13 [[pS (⟨#[119,111,114,107,115]⟩ : ByteArray),pI 0,pI 0,pI 0,pI 0,pI 0,pI 0,pI 0,pI 0,pI 0,pI 0,pI 0,pS (⟨#[104,111,108,105,100,97,121,115]⟩ : ByteArray),pI 5,.sl 3 [[pI 0,pI 2,pI 0]] false],[pS (⟨#[112,97,114,116,121]⟩ : ByteArray),pI 2026,pI 12,pI 31,pI 0,pI 0,pI 0,pI 0,pI 0,pI 0,pI 0,pI 0,pS (⟨#[]⟩ : ByteArray),pI 3,.sl 3 [[pI 1080,pI 2,pI 1],[pI 1380,pI 0,pI 0]] false]] false [[pS (⟨#[104,111,108,105,100,97,121,115]⟩ : ByteArray),.sl 11 [[pI 0,pI 0,pI 0,pI 0,pI 0,pI 2026,pI 12,pI 24,pI 2026,pI 12,pI 31],[pI 0,pI 1,pI 1,pI 0,pI 0,pI 0,pI 0,pI 0,pI 0,pI 0,pI 0]] false]] false 9862 (fun es15 full16 n17=>(0≤(0 : Int)∧(0 : Int) < 1)∧f10 (⟨#[104,111,108,105,100,97,121,115]⟩ : ByteArray) [[pI 0,pI 0,pI 0,pI 0,pI 0,pI 2026,pI 12,pI 24,pI 2026,pI 12,pI 31],[pI 0,pI 1,pI 1,pI 0,pI 0,pI 0,pI 0,pI 0,pI 0,pI 0,pI 0]] false 9863 (fun n18 n19=>bB (n3 == 0) (f18 es1 full2 [[pI 1],[pI 0]] false (fun b20=>bB b20 (bB (n7 == 0) (bB (n4 == 0) (bB ((n5 == 2) && ((n6 == 0) && true)) (bB (n11 == 0) (bB (n8 == 1) (bB (n10 == 1) (bB (n14 == 0) (f18 es12 full13 [[pI 1080],[pI 1380]] false (fun b21=>bB b21 (bB (n17 == 0) (bB ((es15.length : Int) == 0) (bB (n19 == 0) (k0 (n18 == 10227)) (k0 false)) (k0 false)) (k0 false)) (k0 false))) (k0 false)) (k0 false)) (k0 false)) (k0 false)) (k0 false)) (k0 false)) (k0 false)) (k0 false))) (k0 false)))))))
structure f8 (k0 : Bool→Prop) : Prop where
  run : f8_d k0
def f8_tab : List (Nat×Told):=[]
def f8_call : FuncId→List TV→List Entry→(TV→List Entry→Prop)→Prop:=addCall 18 f18_G (addCall 17 f17_G (addCall 14 f14_G (addCall 13 f13_G (addCall 10 f10_G (noCalls)))))
def f8_C : Ctx:=mkC [] [] [] [] [] false 0 true (lookL f8_tab) f8_call
def f8_G0 : List TV→List Entry→(TV→List Entry→Prop)→Prop:=fun tm hp K=>getS [] [] tm hp fun (xx : Unit) (yy : Unit)=>f8 (fun b0_0=>K (B b0_0) [])
theorem f8_eq (K : TV→List Entry→Prop) : (f8_d (fun b0_0=>K (B b0_0) [])) = funcT f8_C Tryd.f8 [] [] K:=by kernel_rfl
set_option maxHeartbeats 4000000 in
theorem f8_ok0 : FnOk Tryd.prog glob 8 f8_G0:=by
  refine FnOk.of_text (C:=f8_C) tab_ok.ok (Known.add f18_G_ok (Known.add f17_G_ok (Known.add f14_G_ok (Known.add f13_G_ok (Known.add f10_G_ok (Known.none)))))) follows_ok (fn:=Tryd.f8) (by kernel_rfl) (by kernel_rfl) (by kernel_rfl) (fun c hc=>?_) fun tm hp K h=>?_
  · have e : c = bodyOf Tryd.f8:=Option.some.inj (hc.symm.trans (by kernel_rfl))
    subst e
    exact ⟨LoopsOk.of [] (by kernel_rfl) trivial,TailsOk.of (tab:=f8_tab) rfl [] (by kernel_rfl) trivial⟩
  · unfold f8_G0 at h
    obtain ⟨xx,yy,rfl,rfl,h⟩:=getS_elim h
    have e:=(f8_eq K).trans (show _ = funcT f8_C Tryd.f8 (mkR _ xx) (mkE _ yy) K by kernel_rfl)
    rw [← e]
    exact h.run
abbrev f8_G:=f8_G0
theorem f8_G_ok : FnOk Tryd.prog glob 8 f8_G:=f8_ok0
def f9_p16b0 (n14 : Int) (i15 n16 : Nat) (n17 : Int) (s18 : ByteArray) (es19 : LL) (full20 : Bool) (es21 : LL) (N0 : Nat→Nat→Int→(LL)→Prop) (k0 : Nat→Nat→(LL)→Prop) : Prop:=bB (decide (n17≤n14)) (f20 s18 es19 full20 n17 (fun b22=>bB b22 ((i15 + n16)≤es21.length∧(n16 + 1) * 8≤2 ^ 47 + 2 ^ 30∧(n16 + 1)≤2 ^ 47 + 2 ^ 30∧N0 0 (n16 + 1) (w64 (n17 + 1)) ((List.take n16 (List.drop i15 es21)) ++ [[pI n17]])) (N0 i15 n16 (w64 (n17 + 1)) es21))) (k0 i15 n16 es21)
def f9_p16 (n14 : Int) (s18 : ByteArray) (es19 : LL) (full20 : Bool) (k0 : Nat→Nat→(LL)→Prop) : Nat×Nat×Int×(LL)→Prop:=LoopP fun x N=>f9_p16b0 n14 x.1 x.2.1 x.2.2.1 s18 es19 full20 x.2.2.2 (fun i15 n16 n17 es21=>N (i15,n16,n17,es21)) k0
def f9_p13 (n9 n10 : Int) (s11 : ByteArray) (es12 : LL) (full13 : Bool) (k0 : Nat→Nat→Int→(LL)→Prop) : Prop:=f9_p16 n10 s11 es12 full13 (fun i23 n24 es25=>k0 i23 n24 0 es25) (0,0,n9,[])
def f9_d (s1 : ByteArray) (es2 : LL) (full3 : Bool) (n4 n5 : Int) (k0 : (LL)→Bool→Int→Prop) : Prop:=f7 s1 es2 full3 (fun n6=>bB (n6 != 0) (k0 [] true n6) (f19 n4 (fun b7=>bB (!b7) (k0 [] true 1) (f19 n5 (fun b8=>bB (!b8) (k0 [] true 1) (f9_p13 n4 n5 s1 es2 full3 (fun i26 n27 n28 es29=>k0 (List.take n27 (List.drop i26 es29)) false n28)))))))
structure f9 (s1 : ByteArray) (es2 : LL) (full3 : Bool) (n4 n5 : Int) (k0 : (LL)→Bool→Int→Prop) : Prop where
  run : f9_d s1 es2 full3 n4 n5 k0
def f9_p16L : Told:=fun s K=>match s with
  | ⟨tm,hp⟩=>getS [.skip 2,.v (.one (.int .i64)),.v (.one (.ptr 0 0 0)),.skip 5,.v (.one (.ref 1)),.v (.one (.int .i64)),.skip 27] [.box [.str,.sl 11],.vec 1 true] tm hp fun (xx : (Unit×(Int×(Unit×(Unit×((Nat×Nat)×(Int×(Unit×Unit)))))))) (yy : ((ByteArray×((LL×Bool)×Unit))×((LL)×Unit)))=>f9_p16 xx.2.1 yy.1.1 yy.1.2.1.1 yy.1.2.1.2 (fun i0_0 n0_1 es0_2=>K (.exit 0) ⟨mkS 38 [(9,.w (.one (.ref 0 i0_0 n0_1)))],[.vec 1 es0_2 true]⟩) (xx.2.2.2.2.1.1,xx.2.2.2.2.1.2,xx.2.2.2.2.2.1,yy.2.1)
def f9_p13L : Told:=fun s K=>match s with
  | ⟨tm,hp⟩=>getS [.skip 1,.v (.one (.int .i64)),.v (.one (.int .i64)),.v (.one (.ptr 0 0 0)),.skip 34] [.box [.str,.sl 11]] tm hp fun (xx : (Unit×(Int×(Int×(Unit×(Unit×Unit)))))) (yy : ((ByteArray×((LL×Bool)×Unit))×Unit))=>f9_p13 xx.2.1 xx.2.2.1 yy.1.1 yy.1.2.1.1 yy.1.2.1.2 (fun i0_3 n0_4 n0_5 es0_6=>K .ret ⟨mkS 38 [(6,.w (.one (.ref 0 i0_3 n0_4))),(7,I n0_5)],[.vec 1 es0_6 true]⟩)
def f9_tab : List (Nat×Told):=[(16,f9_p16L),(13,f9_p13L)]
def f9_call : FuncId→List TV→List Entry→(TV→List Entry→Prop)→Prop:=addCall 20 f20_G (addCall 19 f19_G (addCall 7 f7_G (noCalls)))
def f9_C : Ctx:=mkC [(16,[(0,[2,3,9,10]),(2,[6,7]),(3,[9])]),(13,[(0,[1,2,3]),(1,[6,7]),(2,[6,7])])] [] [(16,[9])] [] [] false 0 true (lookL f9_tab) f9_call
def f9_p16_mk (n14 : Int) (s18 : ByteArray) (es19 : LL) (full20 : Bool) (x : Nat×Nat×Int×(LL)) : St:=⟨mkS 38 [(2,I n14),(3,.w (.one (.ptr 0 0 0))),(9,.w (.one (.ref 1 x.1 x.2.1))),(10,I x.2.2.1)],[.box [.p (pS s18),.p (.sl 11 es19 full20)],.vec 1 x.2.2.2 true]⟩
theorem f9_p16e0 (n_18 : Int) (i_19 n_20 : Nat) (n_21 : Int) (s_22 : ByteArray) (es_23 : LL) (full_24 : Bool) (es_25 : LL) (N : St→Prop) (K : TExit→St→Prop) : (f9_p16b0 n_18 i_19 n_20 n_21 s_22 es_23 full_24 es_25 (fun z1 z2 z3 z7=>N (f9_p16_mk n_18 s_22 es_23 full_24 (z1,z2,z3,z7))) (fun i0_26 n0_27 es0_28=>K (.exit 0) ⟨mkS 38 [(9,.w (.one (.ref 0 i0_26 n0_27)))],[.vec 1 es0_28 true]⟩)) = execT f9_C (bd Tryd.f9 0) (f9_p16_mk n_18 s_22 es_23 full_24 (i_19,n_20,n_21,es_25)) (loopK N (normK f9_C 16) fun e s=>K e (normOut f9_C 16 e s)):=by kernel_rfl
theorem f9_p13e0 (n_29 n_30 : Int) (s_31 : ByteArray) (es_32 : LL) (full_33 : Bool) (K : TExit→St→Prop) : (f9_p13 n_29 n_30 s_31 es_32 full_33 (fun i0_34 n0_35 n0_36 es0_37=>K .ret ⟨mkS 38 [(6,.w (.one (.ref 0 i0_34 n0_35))),(7,I n0_36)],[.vec 1 es0_37 true]⟩)) = execT f9_C (nthC (tails (bodyOf Tryd.f9)) 5) ⟨mkS 38 [(1,I n_29),(2,I n_30),(3,.w (.one (.ptr 0 0 0)))],[.box [.p (pS s_31),.p (.sl 11 es_32 full_33)]]⟩ (fun e s=>K e (normOut f9_C 13 e s)):=by kernel_rfl
set_option maxHeartbeats 4000000 in
theorem f9_p16_ok : LoopOk f9_C (bd Tryd.f9 0):=by
  refine LoopOk.of f9_p16L (by kernel_rfl) fun σ K h=>?_
  have hk : loopKey (bd Tryd.f9 0) = 16:=by kernel_rfl
  rw [hk] at h ⊢
  generalize hs : normK f9_C 16 σ = s at h
  obtain ⟨tm,hp⟩:=s
  unfold f9_p16L at h
  dsimp only at h
  obtain ⟨xx,yy,rfl,rfl,h⟩:=getS_elim h
  refine iter_of (f9_p16_mk xx.2.1 yy.1.1 yy.1.2.1.1 yy.1.2.1.2) (fun x N h=>?_) rounds _ σ (hs.trans (by kernel_rfl)) (LoopP.run h)
  obtain ⟨y0,y1,y2,y3⟩:=x
  rw [← f9_p16e0 xx.2.1 y0 y1 y2 yy.1.1 yy.1.2.1.1 yy.1.2.1.2 y3 N K]
  exact h
set_option maxHeartbeats 4000000 in
theorem f9_p13_ok : TailOk f9_C (nthC (tails (bodyOf Tryd.f9)) 5):=by
  refine TailOk.of f9_p13L (by kernel_rfl) fun σ K h=>?_
  have hk : joinKey (nthC (tails (bodyOf Tryd.f9)) 5) = 13:=by kernel_rfl
  rw [hk] at h ⊢
  generalize hs : normK f9_C 13 σ = s at h
  obtain ⟨tm,hp⟩:=s
  unfold f9_p13L at h
  dsimp only at h
  obtain ⟨xx,yy,rfl,rfl,h⟩:=getS_elim h
  have q : normK f9_C 13 σ = (⟨mkS 38 [(1,I xx.2.1),(2,I xx.2.2.1),(3,.w (.one (.ptr 0 0 0)))],[.box [.p (pS yy.1.1),.p (.sl 11 yy.1.2.1.1 yy.1.2.1.2)]]⟩ : St):=hs.trans (by kernel_rfl)
  rw [← hs,q,← f9_p13e0 xx.2.1 xx.2.2.1 yy.1.1 yy.1.2.1.1 yy.1.2.1.2 K]
  exact h
def f9_G0 : List TV→List Entry→(TV→List Entry→Prop)→Prop:=fun tm hp K=>getS [.v (.pagg [.str,.sl 11]),.v (.one (.int .i64)),.v (.one (.int .i64))] [] tm hp fun (xx : ((ByteArray×((LL×Bool)×Unit))×(Int×(Int×Unit)))) (yy : Unit)=>f9 xx.1.1 xx.1.2.1.1 xx.1.2.1.2 xx.2.1 xx.2.2.1 (fun es0_7 full0_8 n0_9=>K (.tup [.one (.p (.sl 1 es0_7 full0_8)),.one (.p (pI n0_9))]) [])
theorem f9_eq (s_38 : ByteArray) (es_39 : LL) (full_40 : Bool) (n_41 n_42 : Int) (K : TV→List Entry→Prop) : (f9_d s_38 es_39 full_40 n_41 n_42 (fun es0_7 full0_8 n0_9=>K (.tup [.one (.p (.sl 1 es0_7 full0_8)),.one (.p (pI n0_9))]) [])) = funcT f9_C Tryd.f9 [.w (.pagg [pS s_38,.sl 11 es_39 full_40]),I n_41,I n_42] [] K:=by kernel_rfl
set_option maxHeartbeats 4000000 in
theorem f9_ok0 : FnOk Tryd.prog glob 9 f9_G0:=by
  refine FnOk.of_text (C:=f9_C) tab_ok.ok (Known.add f20_G_ok (Known.add f19_G_ok (Known.add f7_G_ok (Known.none)))) follows_ok (fn:=Tryd.f9) (by kernel_rfl) (by kernel_rfl) (by kernel_rfl) (fun c hc=>?_) fun tm hp K h=>?_
  · have e : c = bodyOf Tryd.f9:=Option.some.inj (hc.symm.trans (by kernel_rfl))
    subst e
    exact ⟨LoopsOk.of [bd Tryd.f9 0] (by kernel_rfl) ⟨f9_p16_ok,trivial⟩,TailsOk.of (tab:=f9_tab) rfl [nthC (tails (bodyOf Tryd.f9)) 5] (by kernel_rfl) ⟨f9_p13_ok,trivial⟩⟩
  · unfold f9_G0 at h
    obtain ⟨xx,yy,rfl,rfl,h⟩:=getS_elim h
    have e:=(f9_eq xx.1.1 xx.1.2.1.1 xx.1.2.1.2 xx.2.1 xx.2.2.1 K).trans (show _ = funcT f9_C Tryd.f9 (mkR _ xx) (mkE _ yy) K by kernel_rfl)
    rw [← e]
    exact h.run
abbrev f9_G:=f9_G0
theorem f9_G_ok : FnOk Tryd.prog glob 9 f9_G:=f9_ok0
def f11_d (s1 : ByteArray) (es2 : LL) (full3 : Bool) (n4 : Int) (k0 : Bool→Int→Prop) : Prop:=f7 s1 es2 full3 (fun n5=>bB (n5 != 0) (k0 false n5) (f19 n4 (fun b6=>bB (!b6) (k0 false 1) (f20 s1 es2 full3 n4 (fun b7=>k0 b7 0)))))
structure f11 (s1 : ByteArray) (es2 : LL) (full3 : Bool) (n4 : Int) (k0 : Bool→Int→Prop) : Prop where
  run : f11_d s1 es2 full3 n4 k0
def f11_tab : List (Nat×Told):=[]
def f11_call : FuncId→List TV→List Entry→(TV→List Entry→Prop)→Prop:=addCall 20 f20_G (addCall 19 f19_G (addCall 7 f7_G (noCalls)))
def f11_C : Ctx:=mkC [] [] [] [] [] false 0 true (lookL f11_tab) f11_call
def f11_G0 : List TV→List Entry→(TV→List Entry→Prop)→Prop:=fun tm hp K=>getS [.v (.pagg [.str,.sl 11]),.v (.one (.int .i64))] [] tm hp fun (xx : ((ByteArray×((LL×Bool)×Unit))×(Int×Unit))) (yy : Unit)=>f11 xx.1.1 xx.1.2.1.1 xx.1.2.1.2 xx.2.1 (fun b0_0 n0_1=>K (.tup [.one (.p (pB b0_0)),.one (.p (pI n0_1))]) [])
theorem f11_eq (s_2 : ByteArray) (es_3 : LL) (full_4 : Bool) (n_5 : Int) (K : TV→List Entry→Prop) : (f11_d s_2 es_3 full_4 n_5 (fun b0_0 n0_1=>K (.tup [.one (.p (pB b0_0)),.one (.p (pI n0_1))]) [])) = funcT f11_C Tryd.f11 [.w (.pagg [pS s_2,.sl 11 es_3 full_4]),I n_5] [] K:=by kernel_rfl
set_option maxHeartbeats 4000000 in
theorem f11_ok0 : FnOk Tryd.prog glob 11 f11_G0:=by
  refine FnOk.of_text (C:=f11_C) tab_ok.ok (Known.add f20_G_ok (Known.add f19_G_ok (Known.add f7_G_ok (Known.none)))) follows_ok (fn:=Tryd.f11) (by kernel_rfl) (by kernel_rfl) (by kernel_rfl) (fun c hc=>?_) fun tm hp K h=>?_
  · have e : c = bodyOf Tryd.f11:=Option.some.inj (hc.symm.trans (by kernel_rfl))
    subst e
    exact ⟨LoopsOk.of [] (by kernel_rfl) trivial,TailsOk.of (tab:=f11_tab) rfl [] (by kernel_rfl) trivial⟩
  · unfold f11_G0 at h
    obtain ⟨xx,yy,rfl,rfl,h⟩:=getS_elim h
    have e:=(f11_eq xx.1.1 xx.1.2.1.1 xx.1.2.1.2 xx.2.1 K).trans (show _ = funcT f11_C Tryd.f11 (mkR _ xx) (mkE _ yy) K by kernel_rfl)
    rw [← e]
    exact h.run
abbrev f11_G:=f11_G0
theorem f11_G_ok : FnOk Tryd.prog glob 11 f11_G:=f11_ok0
def f12_p10b0 (es9 : LL) (full10 : Bool) (es11 : LL) (full12 : Bool) (n13 n14 : Int) (N0 : Int→Int→Prop) (k0 : Int→Prop) : Prop:=bB (decide (n14 < (es9.length : Int))) ((0≤n14∧n14 < (es9.length : Int))∧oL 3 (ext (List.getD es9 (Int.toNat n14) []) 14 1) fun es15 full16=>N0 (w64 (n13 + (es15.length : Int))) (w64 (n14 + 1))) (k0 n13)
def f12_p10 (es9 : LL) (full10 : Bool) (es11 : LL) (full12 : Bool) (k0 : Int→Prop) : Int×Int→Prop:=LoopP fun x N=>f12_p10b0 es9 full10 es11 full12 x.1 x.2 (fun n13 n14=>N (n13,n14)) k0
def f12_p18b0 (es18 : LL) (full19 : Bool) (n20 n21 : Int) (N0 : Int→Int→Prop) (k0 : Int→Prop) : Prop:=bB (decide (n21 < (es18.length : Int))) ((0≤n21∧n21 < (es18.length : Int))∧oL 11 (ext (List.getD es18 (Int.toNat n21) []) 1 1) fun es22 full23=>N0 (w64 (n20 + (es22.length : Int))) (w64 (n21 + 1))) (k0 n20)
def f12_p18 (es18 : LL) (full19 : Bool) (k0 : Int→Prop) : Int×Int→Prop:=LoopP fun x N=>f12_p18b0 es18 full19 x.1 x.2 (fun n20 n21=>N (n20,n21)) k0
def f12_p7 (es5 : LL) (full6 : Bool) (es7 : LL) (full8 : Bool) (k0 : Bool→Prop) : Prop:=f12_p10 es5 full6 es7 full8 (fun n17=>f12_p18 es7 full8 (fun n24=>k0 (decide (n24≤200))) (n17,0)) (0,0)
def f12_d (es1 : LL) (full2 : Bool) (es3 : LL) (full4 : Bool) (k0 : Bool→Prop) : Prop:=bB (decide ((es1.length : Int) > 70)) (k0 false) (bB (decide ((es3.length : Int) > 8)) (k0 false) (f12_p7 es1 full2 es3 full4 k0))
structure f12 (es1 : LL) (full2 : Bool) (es3 : LL) (full4 : Bool) (k0 : Bool→Prop) : Prop where
  run : f12_d es1 full2 es3 full4 k0
def f12_p10L : Told:=fun s K=>match s with
  | ⟨tm,hp⟩=>getS [.v (.one (.sl 15)),.v (.one (.sl 2)),.skip 3,.v (.one (.int .i64)),.v (.one (.int .i64)),.skip 39] [] tm hp fun (xx : ((LL×Bool)×((LL×Bool)×(Unit×(Int×(Int×(Unit×Unit))))))) (yy : Unit)=>f12_p10 xx.1.1 xx.1.2 xx.2.1.1 xx.2.1.2 (fun n0_0=>K (.exit 0) ⟨mkS 46 [(1,.w (.one (.p (.sl 2 xx.2.1.1 xx.2.1.2)))),(5,I n0_0)],[]⟩) (xx.2.2.2.1,xx.2.2.2.2.1)
def f12_p18L : Told:=fun s K=>match s with
  | ⟨tm,hp⟩=>getS [.skip 1,.v (.one (.sl 2)),.skip 3,.v (.one (.int .i64)),.skip 1,.v (.one (.int .i64)),.skip 38] [] tm hp fun (xx : (Unit×((LL×Bool)×(Unit×(Int×(Unit×(Int×(Unit×Unit)))))))) (yy : Unit)=>f12_p18 xx.2.1.1 xx.2.1.2 (fun n0_1=>K (.exit 2) ⟨mkS 46 [(5,I n0_1)],[]⟩) (xx.2.2.2.1,xx.2.2.2.2.2.1)
def f12_p7L : Told:=fun s K=>match s with
  | ⟨tm,hp⟩=>getS [.v (.one (.sl 15)),.v (.one (.sl 2)),.skip 44] [] tm hp fun (xx : ((LL×Bool)×((LL×Bool)×(Unit×Unit)))) (yy : Unit)=>f12_p7 xx.1.1 xx.1.2 xx.2.1.1 xx.2.1.2 (fun b0_2=>K .ret ⟨mkS 46 [(4,B b0_2)],[]⟩)
def f12_tab : List (Nat×Told):=[(10,f12_p10L),(18,f12_p18L),(7,f12_p7L)]
def f12_call : FuncId→List TV→List Entry→(TV→List Entry→Prop)→Prop:=noCalls
def f12_C : Ctx:=mkC [(10,[(0,[0,1,5,6]),(2,[4]),(3,[1,5])]),(18,[(0,[1,5,7]),(2,[4]),(5,[5])]),(7,[(0,[0,1]),(1,[4]),(2,[4])])] [] [] [] [] false 0 true (lookL f12_tab) f12_call
def f12_p10_mk (es9 : LL) (full10 : Bool) (es11 : LL) (full12 : Bool) (x : Int×Int) : St:=⟨mkS 46 [(0,.w (.one (.p (.sl 15 es9 full10)))),(1,.w (.one (.p (.sl 2 es11 full12)))),(5,I x.1),(6,I x.2)],[]⟩
theorem f12_p10e0 (es_10 : LL) (full_11 : Bool) (es_12 : LL) (full_13 : Bool) (n_14 n_15 : Int) (N : St→Prop) (K : TExit→St→Prop) : (f12_p10b0 es_10 full_11 es_12 full_13 n_14 n_15 (fun z4 z5=>N (f12_p10_mk es_10 full_11 es_12 full_13 (z4,z5))) (fun n0_16=>K (.exit 0) ⟨mkS 46 [(1,.w (.one (.p (.sl 2 es_12 full_13)))),(5,I n0_16)],[]⟩)) = execT f12_C (bd Tryd.f12 0) (f12_p10_mk es_10 full_11 es_12 full_13 (n_14,n_15)) (loopK N (normK f12_C 10) fun e s=>K e (normOut f12_C 10 e s)):=by kernel_rfl
def f12_p18_mk (es18 : LL) (full19 : Bool) (x : Int×Int) : St:=⟨mkS 46 [(1,.w (.one (.p (.sl 2 es18 full19)))),(5,I x.1),(7,I x.2)],[]⟩
theorem f12_p18e0 (es_21 : LL) (full_22 : Bool) (n_23 n_24 : Int) (N : St→Prop) (K : TExit→St→Prop) : (f12_p18b0 es_21 full_22 n_23 n_24 (fun z2 z3=>N (f12_p18_mk es_21 full_22 (z2,z3))) (fun n0_25=>K (.exit 2) ⟨mkS 46 [(5,I n0_25)],[]⟩)) = execT f12_C (bd Tryd.f12 1) (f12_p18_mk es_21 full_22 (n_23,n_24)) (loopK N (normK f12_C 18) fun e s=>K e (normOut f12_C 18 e s)):=by kernel_rfl
theorem f12_p7e0 (es_26 : LL) (full_27 : Bool) (es_28 : LL) (full_29 : Bool) (K : TExit→St→Prop) : (f12_p7 es_26 full_27 es_28 full_29 (fun b0_30=>K .ret ⟨mkS 46 [(4,B b0_30)],[]⟩)) = execT f12_C (nthC (tails (bodyOf Tryd.f12)) 1) ⟨mkS 46 [(0,.w (.one (.p (.sl 15 es_26 full_27)))),(1,.w (.one (.p (.sl 2 es_28 full_29))))],[]⟩ (fun e s=>K e (normOut f12_C 7 e s)):=by kernel_rfl
set_option maxHeartbeats 4000000 in
theorem f12_p10_ok : LoopOk f12_C (bd Tryd.f12 0):=by
  refine LoopOk.of f12_p10L (by kernel_rfl) fun σ K h=>?_
  have hk : loopKey (bd Tryd.f12 0) = 10:=by kernel_rfl
  rw [hk] at h ⊢
  generalize hs : normK f12_C 10 σ = s at h
  obtain ⟨tm,hp⟩:=s
  unfold f12_p10L at h
  dsimp only at h
  obtain ⟨xx,yy,rfl,rfl,h⟩:=getS_elim h
  refine iter_of (f12_p10_mk xx.1.1 xx.1.2 xx.2.1.1 xx.2.1.2) (fun x N h=>?_) rounds _ σ (hs.trans (by kernel_rfl)) (LoopP.run h)
  obtain ⟨y0,y1⟩:=x
  rw [← f12_p10e0 xx.1.1 xx.1.2 xx.2.1.1 xx.2.1.2 y0 y1 N K]
  exact h
set_option maxHeartbeats 4000000 in
theorem f12_p18_ok : LoopOk f12_C (bd Tryd.f12 1):=by
  refine LoopOk.of f12_p18L (by kernel_rfl) fun σ K h=>?_
  have hk : loopKey (bd Tryd.f12 1) = 18:=by kernel_rfl
  rw [hk] at h ⊢
  generalize hs : normK f12_C 18 σ = s at h
  obtain ⟨tm,hp⟩:=s
  unfold f12_p18L at h
  dsimp only at h
  obtain ⟨xx,yy,rfl,rfl,h⟩:=getS_elim h
  refine iter_of (f12_p18_mk xx.2.1.1 xx.2.1.2) (fun x N h=>?_) rounds _ σ (hs.trans (by kernel_rfl)) (LoopP.run h)
  obtain ⟨y0,y1⟩:=x
  rw [← f12_p18e0 xx.2.1.1 xx.2.1.2 y0 y1 N K]
  exact h
set_option maxHeartbeats 4000000 in
theorem f12_p7_ok : TailOk f12_C (nthC (tails (bodyOf Tryd.f12)) 1):=by
  refine TailOk.of f12_p7L (by kernel_rfl) fun σ K h=>?_
  have hk : joinKey (nthC (tails (bodyOf Tryd.f12)) 1) = 7:=by kernel_rfl
  rw [hk] at h ⊢
  generalize hs : normK f12_C 7 σ = s at h
  obtain ⟨tm,hp⟩:=s
  unfold f12_p7L at h
  dsimp only at h
  obtain ⟨xx,yy,rfl,rfl,h⟩:=getS_elim h
  have q : normK f12_C 7 σ = (⟨mkS 46 [(0,.w (.one (.p (.sl 15 xx.1.1 xx.1.2)))),(1,.w (.one (.p (.sl 2 xx.2.1.1 xx.2.1.2))))],[]⟩ : St):=hs.trans (by kernel_rfl)
  rw [← hs,q,← f12_p7e0 xx.1.1 xx.1.2 xx.2.1.1 xx.2.1.2 K]
  exact h
def f12_G0 : List TV→List Entry→(TV→List Entry→Prop)→Prop:=fun tm hp K=>getS [.v (.one (.sl 15)),.v (.one (.sl 2))] [] tm hp fun (xx : ((LL×Bool)×((LL×Bool)×Unit))) (yy : Unit)=>f12 xx.1.1 xx.1.2 xx.2.1.1 xx.2.1.2 (fun b0_3=>K (B b0_3) [])
theorem f12_eq (es_31 : LL) (full_32 : Bool) (es_33 : LL) (full_34 : Bool) (K : TV→List Entry→Prop) : (f12_d es_31 full_32 es_33 full_34 (fun b0_3=>K (B b0_3) [])) = funcT f12_C Tryd.f12 [.w (.one (.p (.sl 15 es_31 full_32))),.w (.one (.p (.sl 2 es_33 full_34)))] [] K:=by kernel_rfl
set_option maxHeartbeats 4000000 in
theorem f12_ok0 : FnOk Tryd.prog glob 12 f12_G0:=by
  refine FnOk.of_text (C:=f12_C) tab_ok.ok (Known.none) follows_ok (fn:=Tryd.f12) (by kernel_rfl) (by kernel_rfl) (by kernel_rfl) (fun c hc=>?_) fun tm hp K h=>?_
  · have e : c = bodyOf Tryd.f12:=Option.some.inj (hc.symm.trans (by kernel_rfl))
    subst e
    exact ⟨LoopsOk.of [bd Tryd.f12 0,bd Tryd.f12 1] (by kernel_rfl) ⟨f12_p10_ok,f12_p18_ok,trivial⟩,TailsOk.of (tab:=f12_tab) rfl [nthC (tails (bodyOf Tryd.f12)) 1] (by kernel_rfl) ⟨f12_p7_ok,trivial⟩⟩
  · unfold f12_G0 at h
    obtain ⟨xx,yy,rfl,rfl,h⟩:=getS_elim h
    have e:=(f12_eq xx.1.1 xx.1.2 xx.2.1.1 xx.2.1.2 K).trans (show _ = funcT f12_C Tryd.f12 (mkR _ xx) (mkE _ yy) K by kernel_rfl)
    rw [← e]
    exact h.run
abbrev f12_G:=f12_G0
theorem f12_G_ok : FnOk Tryd.prog glob 12 f12_G:=f12_ok0
def f6_d (n1 : Int) (k0 : Bool→Prop) : Prop:=bB (decide (n1≥0)) (k0 (decide (n1≤73048))) (k0 false)
structure f6 (n1 : Int) (k0 : Bool→Prop) : Prop where
  run : f6_d n1 k0
def f6_tab : List (Nat×Told):=[]
def f6_call : FuncId→List TV→List Entry→(TV→List Entry→Prop)→Prop:=noCalls
def f6_C : Ctx:=mkC [] [] [] [] [] false 0 true (lookL f6_tab) f6_call
def f6_G0 : List TV→List Entry→(TV→List Entry→Prop)→Prop:=fun tm hp K=>getS [.v (.one (.int .i64))] [] tm hp fun (xx : (Int×Unit)) (yy : Unit)=>f6 xx.1 (fun b0_0=>K (B b0_0) [])
theorem f6_eq (n_1 : Int) (K : TV→List Entry→Prop) : (f6_d n_1 (fun b0_0=>K (B b0_0) [])) = funcT f6_C Tryd.f6 [I n_1] [] K:=by kernel_rfl
set_option maxHeartbeats 4000000 in
theorem f6_ok0 : FnOk Tryd.prog glob 6 f6_G0:=by
  refine FnOk.of_text (C:=f6_C) tab_ok.ok (Known.none) follows_ok (fn:=Tryd.f6) (by kernel_rfl) (by kernel_rfl) (by kernel_rfl) (fun c hc=>?_) fun tm hp K h=>?_
  · have e : c = bodyOf Tryd.f6:=Option.some.inj (hc.symm.trans (by kernel_rfl))
    subst e
    exact ⟨LoopsOk.of [] (by kernel_rfl) trivial,TailsOk.of (tab:=f6_tab) rfl [] (by kernel_rfl) trivial⟩
  · unfold f6_G0 at h
    obtain ⟨xx,yy,rfl,rfl,h⟩:=getS_elim h
    have e:=(f6_eq xx.1 K).trans (show _ = funcT f6_C Tryd.f6 (mkR _ xx) (mkE _ yy) K by kernel_rfl)
    rw [← e]
    exact h.run
abbrev f6_G:=f6_G0
theorem f6_G_ok : FnOk Tryd.prog glob 6 f6_G:=f6_ok0
end
end Go.Eng.N
