/- What the functions that the law reaches compute, by the engine; written by program. -/
import Derived.Test.YtbidkfbcmhioiaaDoorFn1
set_option linter.unusedVariables false
set_option maxRecDepth 100000
open Go Go.Eng Go.Proofs
namespace Go.Eng.N
/-! ### f58_1: plenum/notify.plan -/
noncomputable def f58_1_p18b0 (n37 : Int) (n38 : Int) (n39 : Int) (i40 : Nat) (n41 : Nat) (n42 : Int) (n43 : Int) (n44 : Int) (es45 : List (List PC)) (cs46 : List PC) (cs47 : List PC) (s48 : ByteArray) (n49 : Int) (n50 : Int) (n51 : Int) (n52 : Int) (N0 : Int → (List PC) → Prop) (k0 : (List PC) → Prop) : Prop := bB (decide (n39 ≤ n51)) ((0 ≤ n38 ∧ n38 < 7) ∧ (0 ≤ n39 ∧ n39 < 1440) ∧ oB (ext cs47 ((0 + ((Int.toNat n38) * 1440)) + ((Int.toNat n39) * 1)) 1) fun b53 => bB b53 ((0 ≤ n38 ∧ n38 < 7) ∧ (0 ≤ n39 ∧ n39 < 1440) ∧ 1 = 1 ∧ (((0 + ((Int.toNat n38) * 1440)) + ((Int.toNat n39) * 1)) + 1) ≤ cs47.length ∧ N0 (w64 (n39 + 1)) (splice cs47 ((0 + ((Int.toNat n38) * 1440)) + ((Int.toNat n39) * 1)) [pB true])) ((0 ≤ n38 ∧ n38 < 7) ∧ f91 s48 n49 n50 n51 n52 (w64 (n38 + 1)) n39 n37 (fun b54 => (0 ≤ n39 ∧ n39 < 1440) ∧ 1 = 1 ∧ (((0 + ((Int.toNat n38) * 1440)) + ((Int.toNat n39) * 1)) + 1) ≤ cs47.length ∧ N0 (w64 (n39 + 1)) (splice cs47 ((0 + ((Int.toNat n38) * 1440)) + ((Int.toNat n39) * 1)) [pB b54])))) (k0 cs47)
noncomputable def f58_1_p18 (n37 : Int) (n38 : Int) (i40 : Nat) (n41 : Nat) (n42 : Int) (n43 : Int) (n44 : Int) (es45 : List (List PC)) (cs46 : List PC) (s48 : ByteArray) (n49 : Int) (n50 : Int) (n51 : Int) (n52 : Int) (k0 : (List PC) → Prop) : Int × (List PC) → Prop := LoopP fun x N => f58_1_p18b0 n37 n38 x.1 i40 n41 n42 n43 n44 es45 cs46 x.2 s48 n49 n50 n51 n52 (fun n39 cs47 => N (n39, cs47)) k0
noncomputable def f58_1_p12b0 (n23 : Int) (i24 : Nat) (n25 : Nat) (n26 : Int) (n27 : Int) (n28 : Int) (es29 : List (List PC)) (cs30 : List PC) (cs31 : List PC) (s32 : ByteArray) (n33 : Int) (n34 : Int) (n35 : Int) (n36 : Int) (N0 : Int → (List PC) → Prop) (k0 : (List PC) → Prop) : Prop := bB (decide (n28 < 7)) (f58_1_p18 n23 n28 i24 n25 n26 n27 n28 es29 cs30 s32 n33 n34 n35 n36 (fun cs55 => N0 (w64 (n28 + 1)) cs55) (n34, cs31)) (k0 cs31)
noncomputable def f58_1_p12 (n23 : Int) (i24 : Nat) (n25 : Nat) (n26 : Int) (n27 : Int) (es29 : List (List PC)) (cs30 : List PC) (s32 : ByteArray) (n33 : Int) (n34 : Int) (n35 : Int) (n36 : Int) (k0 : (List PC) → Prop) : Int × (List PC) → Prop := LoopP fun x N => f58_1_p12b0 n23 i24 n25 n26 n27 x.1 es29 cs30 x.2 s32 n33 n34 n35 n36 (fun n28 cs31 => N (n28, cs31)) k0
noncomputable def f58_1_p6b0 (n5 : Int) (i6 : Nat) (n7 : Nat) (n8 : Int) (n9 : Int) (es10 : List (List PC)) (cs11 : List PC) (cs12 : List PC) (N0 : Int → (List PC) → Prop) (k0 : (List PC) → Prop) : Prop := bB (decide (n9 < n8)) ((0 ≤ n9 ∧ n9 < ((n7 : Nat) : Int)) ∧ cS (ext (List.getD es10 (i6 + (Int.toNat n9)) []) 0 5) fun s14 r13 => cI .i64 r13 fun n16 r15 => cI .i64 r15 fun n18 r17 => cI .i64 r17 fun n20 r19 => cI .i64 r19 fun n22 r21 => nilC r21 <| f58_1_p12 n5 i6 n7 n8 n9 es10 cs11 s14 n16 n18 n20 n22 (fun cs56 => N0 (w64 (n9 + 1)) cs56) (0, cs12)) (k0 cs12)
noncomputable def f58_1_p6 (n5 : Int) (i6 : Nat) (n7 : Nat) (n8 : Int) (es10 : List (List PC)) (cs11 : List PC) (k0 : (List PC) → Prop) : Int × (List PC) → Prop := LoopP fun x N => f58_1_p6b0 n5 i6 n7 n8 x.1 es10 cs11 x.2 (fun n9 cs12 => N (n9, cs12)) k0
noncomputable def f58_1_d (i1 : Nat) (n2 : Nat) (n3 : Int) (es4 : List (List PC)) (k0 : (List PC) → (List (List PC)) → Prop) : Prop := f58_1_p6 n3 i1 n2 ((n2 : Nat) : Int) es4 (List.replicate 10080 (pB false)) (fun cs57 => (ext cs57 0 10080).length = 10080 ∧ (ext cs57 0 10080).length = 10080 ∧ 10080 ≤ (List.replicate 10080 (pB false)).length ∧ (ext (splice (List.replicate 10080 (pB false)) 0 (ext cs57 0 10080)) 0 10080).length = 10080 ∧ k0 (ext (splice (List.replicate 10080 (pB false)) 0 (ext cs57 0 10080)) 0 10080) es4) (0, (List.replicate 10080 (pB false)))
structure f58_1 (i1 : Nat) (n2 : Nat) (n3 : Int) (es4 : List (List PC)) (k0 : (List PC) → (List (List PC)) → Prop) : Prop where
  run : f58_1_d i1 n2 n3 es4 k0
noncomputable def f58_1_p18L : Told := fun s K => match s with
  | ⟨tm, hp⟩ => getS [.skip 1, .v (.one (.int .i64)), .skip 2, .v (.one (.ptr 1 0 0)), .v (.one (.ptr 2 0 0)), .skip 1, .v (.one (.ptr 3 0 0)), .v (.one (.int .i64)), .v (.one (.int .i64)), .v (.one (.ref 0)), .v (.one (.int .i64)), .v (.one (.int .i64)), .skip 3, .v (.one (.int .i64)), .skip 30] [.vec 5 true, .pbox, .pbox, .box [.str, .int .i64, .int .i64, .int .i64, .int .i64]] tm hp fun (xx : (Unit × (Int × (Unit × (Unit × (Unit × (Unit × (Unit × (Int × (Int × ((Nat × Nat) × (Int × (Int × (Unit × (Int × (Unit × Unit)))))))))))))))) (yy : ((List (List PC)) × ((List PC) × ((List PC) × ((ByteArray × (Int × (Int × (Int × (Int × Unit))))) × Unit))))) => f58_1_p18 xx.2.1 xx.2.2.2.2.2.2.2.1 xx.2.2.2.2.2.2.2.2.2.1.1 xx.2.2.2.2.2.2.2.2.2.1.2 xx.2.2.2.2.2.2.2.2.2.2.1 xx.2.2.2.2.2.2.2.2.2.2.2.1 xx.2.2.2.2.2.2.2.2.2.2.2.2.2.1 yy.1 yy.2.1 yy.2.2.2.1.1 yy.2.2.2.1.2.1 yy.2.2.2.1.2.2.1 yy.2.2.2.1.2.2.2.1 yy.2.2.2.1.2.2.2.2.1 (fun cs0_0 => K (.exit 4) ⟨mkS 47 [(1, I xx.2.1), (4, .w (.one (.ptr 1 0 0))), (5, .w (.one (.ptr 2 0 0))), (7, .w (.one (.ptr 3 0 0))), (10, .w (.one (.ref 0 xx.2.2.2.2.2.2.2.2.2.1.1 xx.2.2.2.2.2.2.2.2.2.1.2))), (11, I xx.2.2.2.2.2.2.2.2.2.2.1), (12, I xx.2.2.2.2.2.2.2.2.2.2.2.1), (16, I xx.2.2.2.2.2.2.2.2.2.2.2.2.2.1)], [.vec 5 yy.1 true, .pbox yy.2.1, .pbox cs0_0, .box [.p (pS yy.2.2.2.1.1), .p (pI yy.2.2.2.1.2.1), .p (pI yy.2.2.2.1.2.2.1), .p (pI yy.2.2.2.1.2.2.2.1), .p (pI yy.2.2.2.1.2.2.2.2.1)]]⟩) (xx.2.2.2.2.2.2.2.2.1, yy.2.2.1)
noncomputable def f58_1_p12L : Told := fun s K => match s with
  | ⟨tm, hp⟩ => getS [.skip 1, .v (.one (.int .i64)), .skip 2, .v (.one (.ptr 1 0 0)), .v (.one (.ptr 2 0 0)), .skip 1, .v (.one (.ptr 3 0 0)), .skip 2, .v (.one (.ref 0)), .v (.one (.int .i64)), .v (.one (.int .i64)), .skip 3, .v (.one (.int .i64)), .skip 30] [.vec 5 true, .pbox, .pbox, .box [.str, .int .i64, .int .i64, .int .i64, .int .i64]] tm hp fun (xx : (Unit × (Int × (Unit × (Unit × (Unit × (Unit × (Unit × (Unit × ((Nat × Nat) × (Int × (Int × (Unit × (Int × (Unit × Unit))))))))))))))) (yy : ((List (List PC)) × ((List PC) × ((List PC) × ((ByteArray × (Int × (Int × (Int × (Int × Unit))))) × Unit))))) => f58_1_p12 xx.2.1 xx.2.2.2.2.2.2.2.2.1.1 xx.2.2.2.2.2.2.2.2.1.2 xx.2.2.2.2.2.2.2.2.2.1 xx.2.2.2.2.2.2.2.2.2.2.1 yy.1 yy.2.1 yy.2.2.2.1.1 yy.2.2.2.1.2.1 yy.2.2.2.1.2.2.1 yy.2.2.2.1.2.2.2.1 yy.2.2.2.1.2.2.2.2.1 (fun cs0_1 => K (.exit 2) ⟨mkS 47 [(1, I xx.2.1), (4, .w (.one (.ptr 1 0 0))), (5, .w (.one (.ptr 2 0 0))), (10, .w (.one (.ref 0 xx.2.2.2.2.2.2.2.2.1.1 xx.2.2.2.2.2.2.2.2.1.2))), (11, I xx.2.2.2.2.2.2.2.2.2.1), (12, I xx.2.2.2.2.2.2.2.2.2.2.1)], [.vec 5 yy.1 true, .pbox yy.2.1, .pbox cs0_1]⟩) (xx.2.2.2.2.2.2.2.2.2.2.2.2.1, yy.2.2.1)
noncomputable def f58_1_p6L : Told := fun s K => match s with
  | ⟨tm, hp⟩ => getS [.skip 1, .v (.one (.int .i64)), .skip 2, .v (.one (.ptr 1 0 0)), .v (.one (.ptr 2 0 0)), .skip 4, .v (.one (.ref 0)), .v (.one (.int .i64)), .v (.one (.int .i64)), .skip 34] [.vec 5 true, .pbox, .pbox] tm hp fun (xx : (Unit × (Int × (Unit × (Unit × (Unit × (Unit × ((Nat × Nat) × (Int × (Int × (Unit × Unit))))))))))) (yy : ((List (List PC)) × ((List PC) × ((List PC) × Unit)))) => f58_1_p6 xx.2.1 xx.2.2.2.2.2.2.1.1 xx.2.2.2.2.2.2.1.2 xx.2.2.2.2.2.2.2.1 yy.1 yy.2.1 (fun cs0_2 => K (.exit 0) ⟨mkS 47 [(4, .w (.one (.ptr 1 0 0))), (5, .w (.one (.ptr 2 0 0)))], [.vec 5 yy.1 true, .pbox yy.2.1, .pbox cs0_2]⟩) (xx.2.2.2.2.2.2.2.2.1, yy.2.2.1)
noncomputable def f58_1_tab : List (Nat × Told) := [(18, f58_1_p18L), (12, f58_1_p12L), (6, f58_1_p6L)]
noncomputable def f58_1_call : FuncId → List TV → List Entry → (TV → List Entry → Prop) → Prop := addCall 91 f91_G (noCalls)
noncomputable def f58_1_C : Ctx := { ty := tyOf tab, glob := glob, byRef := byRef, keep := fun k i => lookN [] (lookN [] ([(18, [(0, [1, 4, 5, 7, 8, 9, 10, 11, 12, 16]), (2, [4]), (3, [4, 5]), (4, [1, 4, 5, 10, 11, 12]), (5, [1, 4, 5, 10, 11, 12]), (6, [1, 4, 5, 7, 10, 11, 12, 16]), (7, [1, 4, 5, 7, 10, 11, 12, 16])]), (12, [(0, [1, 4, 5, 7, 10, 11, 12, 16]), (2, [4]), (3, [4, 5]), (4, [1, 4, 5, 10, 11, 12]), (5, [1, 4, 5, 10, 11, 12])]), (6, [(0, [1, 4, 5, 10, 11, 12]), (2, [4]), (3, [4, 5])])] : List (Nat × List (Nat × List Nat))) k) i, late := lookN [] ([] : List (Nat × List Nat)), nref := lookN [] ([] : List (Nat × List Nat)), nbox := lookN [] ([] : List (Nat × List (Nat × Nat))), take := [], rnil := true, m := 1, fz := false, loops := lookL f58_1_tab, call := f58_1_call }
noncomputable def f58_1_p18_mk (n37 : Int) (n38 : Int) (i40 : Nat) (n41 : Nat) (n42 : Int) (n43 : Int) (n44 : Int) (es45 : List (List PC)) (cs46 : List PC) (s48 : ByteArray) (n49 : Int) (n50 : Int) (n51 : Int) (n52 : Int) (x : Int × (List PC)) : St := ⟨mkS 47 [(1, I n37), (4, .w (.one (.ptr 1 0 0))), (5, .w (.one (.ptr 2 0 0))), (7, .w (.one (.ptr 3 0 0))), (8, I n38), (9, I x.1), (10, .w (.one (.ref 0 i40 n41))), (11, I n42), (12, I n43), (16, I n44)], [.vec 5 es45 true, .pbox cs46, .pbox x.2, .box [.p (pS s48), .p (pI n49), .p (pI n50), .p (pI n51), .p (pI n52)]]⟩
set_option maxRecDepth 100000 in
theorem f58_1_p18e0 (n_21 : Int) (n_22 : Int) (n_23 : Int) (i_24 : Nat) (n_25 : Nat) (n_26 : Int) (n_27 : Int) (n_28 : Int) (es_29 : List (List PC)) (cs_30 : List PC) (cs_31 : List PC) (s_32 : ByteArray) (n_33 : Int) (n_34 : Int) (n_35 : Int) (n_36 : Int) (N : St → Prop) (K : TExit → St → Prop) : (f58_1_p18b0 n_21 n_22 n_23 i_24 n_25 n_26 n_27 n_28 es_29 cs_30 cs_31 s_32 n_33 n_34 n_35 n_36 (fun z2 z10 => N (f58_1_p18_mk n_21 n_22 i_24 n_25 n_26 n_27 n_28 es_29 cs_30 s_32 n_33 n_34 n_35 n_36 (z2, z10))) (fun cs0_37 => K (.exit 4) ⟨mkS 47 [(1, I n_21), (4, .w (.one (.ptr 1 0 0))), (5, .w (.one (.ptr 2 0 0))), (7, .w (.one (.ptr 3 0 0))), (10, .w (.one (.ref 0 i_24 n_25))), (11, I n_26), (12, I n_27), (16, I n_28)], [.vec 5 es_29 true, .pbox cs_30, .pbox cs0_37, .box [.p (pS s_32), .p (pI n_33), .p (pI n_34), .p (pI n_35), .p (pI n_36)]]⟩)) = execT f58_1_C (nthC (bodies (bodyOf Tryd.f58)) 2) (f58_1_p18_mk n_21 n_22 i_24 n_25 n_26 n_27 n_28 es_29 cs_30 s_32 n_33 n_34 n_35 n_36 (n_23, cs_31)) (loopK N (normK f58_1_C 18) fun e s => K e (normOut f58_1_C 18 e s)) := by kernel_rfl
noncomputable def f58_1_p12_mk (n23 : Int) (i24 : Nat) (n25 : Nat) (n26 : Int) (n27 : Int) (es29 : List (List PC)) (cs30 : List PC) (s32 : ByteArray) (n33 : Int) (n34 : Int) (n35 : Int) (n36 : Int) (x : Int × (List PC)) : St := ⟨mkS 47 [(1, I n23), (4, .w (.one (.ptr 1 0 0))), (5, .w (.one (.ptr 2 0 0))), (7, .w (.one (.ptr 3 0 0))), (10, .w (.one (.ref 0 i24 n25))), (11, I n26), (12, I n27), (16, I x.1)], [.vec 5 es29 true, .pbox cs30, .pbox x.2, .box [.p (pS s32), .p (pI n33), .p (pI n34), .p (pI n35), .p (pI n36)]]⟩
set_option maxRecDepth 100000 in
theorem f58_1_p12e0 (n_52 : Int) (i_53 : Nat) (n_54 : Nat) (n_55 : Int) (n_56 : Int) (n_57 : Int) (es_58 : List (List PC)) (cs_59 : List PC) (cs_60 : List PC) (s_61 : ByteArray) (n_62 : Int) (n_63 : Int) (n_64 : Int) (n_65 : Int) (N : St → Prop) (K : TExit → St → Prop) : (f58_1_p12b0 n_52 i_53 n_54 n_55 n_56 n_57 es_58 cs_59 cs_60 s_61 n_62 n_63 n_64 n_65 (fun z5 z8 => N (f58_1_p12_mk n_52 i_53 n_54 n_55 n_56 es_58 cs_59 s_61 n_62 n_63 n_64 n_65 (z5, z8))) (fun cs0_66 => K (.exit 2) ⟨mkS 47 [(1, I n_52), (4, .w (.one (.ptr 1 0 0))), (5, .w (.one (.ptr 2 0 0))), (10, .w (.one (.ref 0 i_53 n_54))), (11, I n_55), (12, I n_56)], [.vec 5 es_58 true, .pbox cs_59, .pbox cs0_66]⟩)) = execT f58_1_C (nthC (bodies (bodyOf Tryd.f58)) 1) (f58_1_p12_mk n_52 i_53 n_54 n_55 n_56 es_58 cs_59 s_61 n_62 n_63 n_64 n_65 (n_57, cs_60)) (loopK N (normK f58_1_C 12) fun e s => K e (normOut f58_1_C 12 e s)) := by kernel_rfl
noncomputable def f58_1_p6_mk (n5 : Int) (i6 : Nat) (n7 : Nat) (n8 : Int) (es10 : List (List PC)) (cs11 : List PC) (x : Int × (List PC)) : St := ⟨mkS 47 [(1, I n5), (4, .w (.one (.ptr 1 0 0))), (5, .w (.one (.ptr 2 0 0))), (10, .w (.one (.ref 0 i6 n7))), (11, I n8), (12, I x.1)], [.vec 5 es10 true, .pbox cs11, .pbox x.2]⟩
set_option maxRecDepth 100000 in
theorem f58_1_p6e0 (n_75 : Int) (i_76 : Nat) (n_77 : Nat) (n_78 : Int) (n_79 : Int) (es_80 : List (List PC)) (cs_81 : List PC) (cs_82 : List PC) (N : St → Prop) (K : TExit → St → Prop) : (f58_1_p6b0 n_75 i_76 n_77 n_78 n_79 es_80 cs_81 cs_82 (fun z4 z7 => N (f58_1_p6_mk n_75 i_76 n_77 n_78 es_80 cs_81 (z4, z7))) (fun cs0_83 => K (.exit 0) ⟨mkS 47 [(4, .w (.one (.ptr 1 0 0))), (5, .w (.one (.ptr 2 0 0)))], [.vec 5 es_80 true, .pbox cs_81, .pbox cs0_83]⟩)) = execT f58_1_C (nthC (bodies (bodyOf Tryd.f58)) 0) (f58_1_p6_mk n_75 i_76 n_77 n_78 es_80 cs_81 (n_79, cs_82)) (loopK N (normK f58_1_C 6) fun e s => K e (normOut f58_1_C 6 e s)) := by kernel_rfl
set_option maxHeartbeats 4000000 in
theorem f58_1_p18_ok : LoopOk f58_1_C (nthC (bodies (bodyOf Tryd.f58)) 2) := by
  refine LoopOk.of f58_1_p18L (by kernel_rfl) fun σ K h => ?_
  have hk : loopKey (nthC (bodies (bodyOf Tryd.f58)) 2) = 18 := by kernel_rfl
  rw [hk] at h ⊢
  generalize hs : normK f58_1_C 18 σ = s at h
  obtain ⟨tm, hp⟩ := s
  unfold f58_1_p18L at h
  dsimp only at h
  obtain ⟨xx, yy, rfl, rfl, h⟩ := getS_elim h
  refine iter_of (f58_1_p18_mk xx.2.1 xx.2.2.2.2.2.2.2.1 xx.2.2.2.2.2.2.2.2.2.1.1 xx.2.2.2.2.2.2.2.2.2.1.2 xx.2.2.2.2.2.2.2.2.2.2.1 xx.2.2.2.2.2.2.2.2.2.2.2.1 xx.2.2.2.2.2.2.2.2.2.2.2.2.2.1 yy.1 yy.2.1 yy.2.2.2.1.1 yy.2.2.2.1.2.1 yy.2.2.2.1.2.2.1 yy.2.2.2.1.2.2.2.1 yy.2.2.2.1.2.2.2.2.1) (fun x N h => ?_) rounds _ σ (hs.trans (by kernel_rfl)) (LoopP.run h)
  obtain ⟨y0, y1⟩ := x
  rw [← f58_1_p18e0 xx.2.1 xx.2.2.2.2.2.2.2.1 y0 xx.2.2.2.2.2.2.2.2.2.1.1 xx.2.2.2.2.2.2.2.2.2.1.2 xx.2.2.2.2.2.2.2.2.2.2.1 xx.2.2.2.2.2.2.2.2.2.2.2.1 xx.2.2.2.2.2.2.2.2.2.2.2.2.2.1 yy.1 yy.2.1 y1 yy.2.2.2.1.1 yy.2.2.2.1.2.1 yy.2.2.2.1.2.2.1 yy.2.2.2.1.2.2.2.1 yy.2.2.2.1.2.2.2.2.1 N K]
  exact h
set_option maxHeartbeats 4000000 in
theorem f58_1_p12_ok : LoopOk f58_1_C (nthC (bodies (bodyOf Tryd.f58)) 1) := by
  refine LoopOk.of f58_1_p12L (by kernel_rfl) fun σ K h => ?_
  have hk : loopKey (nthC (bodies (bodyOf Tryd.f58)) 1) = 12 := by kernel_rfl
  rw [hk] at h ⊢
  generalize hs : normK f58_1_C 12 σ = s at h
  obtain ⟨tm, hp⟩ := s
  unfold f58_1_p12L at h
  dsimp only at h
  obtain ⟨xx, yy, rfl, rfl, h⟩ := getS_elim h
  refine iter_of (f58_1_p12_mk xx.2.1 xx.2.2.2.2.2.2.2.2.1.1 xx.2.2.2.2.2.2.2.2.1.2 xx.2.2.2.2.2.2.2.2.2.1 xx.2.2.2.2.2.2.2.2.2.2.1 yy.1 yy.2.1 yy.2.2.2.1.1 yy.2.2.2.1.2.1 yy.2.2.2.1.2.2.1 yy.2.2.2.1.2.2.2.1 yy.2.2.2.1.2.2.2.2.1) (fun x N h => ?_) rounds _ σ (hs.trans (by kernel_rfl)) (LoopP.run h)
  obtain ⟨y0, y1⟩ := x
  rw [← f58_1_p12e0 xx.2.1 xx.2.2.2.2.2.2.2.2.1.1 xx.2.2.2.2.2.2.2.2.1.2 xx.2.2.2.2.2.2.2.2.2.1 xx.2.2.2.2.2.2.2.2.2.2.1 y0 yy.1 yy.2.1 y1 yy.2.2.2.1.1 yy.2.2.2.1.2.1 yy.2.2.2.1.2.2.1 yy.2.2.2.1.2.2.2.1 yy.2.2.2.1.2.2.2.2.1 N K]
  exact h
set_option maxHeartbeats 4000000 in
theorem f58_1_p6_ok : LoopOk f58_1_C (nthC (bodies (bodyOf Tryd.f58)) 0) := by
  refine LoopOk.of f58_1_p6L (by kernel_rfl) fun σ K h => ?_
  have hk : loopKey (nthC (bodies (bodyOf Tryd.f58)) 0) = 6 := by kernel_rfl
  rw [hk] at h ⊢
  generalize hs : normK f58_1_C 6 σ = s at h
  obtain ⟨tm, hp⟩ := s
  unfold f58_1_p6L at h
  dsimp only at h
  obtain ⟨xx, yy, rfl, rfl, h⟩ := getS_elim h
  refine iter_of (f58_1_p6_mk xx.2.1 xx.2.2.2.2.2.2.1.1 xx.2.2.2.2.2.2.1.2 xx.2.2.2.2.2.2.2.1 yy.1 yy.2.1) (fun x N h => ?_) rounds _ σ (hs.trans (by kernel_rfl)) (LoopP.run h)
  obtain ⟨y0, y1⟩ := x
  rw [← f58_1_p6e0 xx.2.1 xx.2.2.2.2.2.2.1.1 xx.2.2.2.2.2.2.1.2 xx.2.2.2.2.2.2.2.1 y0 yy.1 yy.2.1 y1 N K]
  exact h
noncomputable def f58_1_G0 : List TV → List Entry → (TV → List Entry → Prop) → Prop := fun tm hp K => getS [.v (.one (.ref 0)), .v (.one (.int .i64))] [.vec 5 true] tm hp fun (xx : ((Nat × Nat) × (Int × Unit))) (yy : ((List (List PC)) × Unit)) => f58_1 xx.1.1 xx.1.2 xx.2.1 yy.1 (fun cs0_3 es0_4 => K (.w (.pagg cs0_3)) [.vec 5 es0_4 true])
set_option maxRecDepth 100000 in
theorem f58_1_eq (i_84 : Nat) (n_85 : Nat) (n_86 : Int) (es_87 : List (List PC)) (K : TV → List Entry → Prop) : (f58_1_d i_84 n_85 n_86 es_87 (fun cs0_3 es0_4 => K (.w (.pagg cs0_3)) [.vec 5 es0_4 true])) = funcT f58_1_C Tryd.f58 [.w (.one (.ref 0 i_84 n_85)), I n_86] [.vec 5 es_87 true] K := by kernel_rfl
set_option maxHeartbeats 4000000 in
theorem f58_1_ok0 : FnOk Tryd.prog glob 58 f58_1_G0 := by
  refine FnOk.of_text (C := f58_1_C) tab_ok.ok (Known.add f91_G_ok (Known.none)) follows_ok (fn := Tryd.f58) (by kernel_rfl) (by kernel_rfl) (by kernel_rfl) (fun c hc => ?_) fun tm hp K h => ?_
  · have e : c = bodyOf Tryd.f58 := Option.some.inj (hc.symm.trans (by kernel_rfl))
    subst e
    exact ⟨LoopsOk.of [nthC (bodies (bodyOf Tryd.f58)) 0, nthC (bodies (bodyOf Tryd.f58)) 1, nthC (bodies (bodyOf Tryd.f58)) 2] (by kernel_rfl) ⟨f58_1_p6_ok, f58_1_p12_ok, f58_1_p18_ok, trivial⟩, TailsOk.of (tab := f58_1_tab) rfl [] (by kernel_rfl) trivial⟩
  · unfold f58_1_G0 at h
    obtain ⟨xx, yy, rfl, rfl, h⟩ := getS_elim h
    have e := (f58_1_eq xx.1.1 xx.1.2 xx.2.1 yy.1 K).trans (show _ = funcT f58_1_C Tryd.f58 (mkR _ xx) (mkE _ yy) K by kernel_rfl)
    rw [← e]
    exact h.run
noncomputable def f58_1_G : List TV → List Entry → (TV → List Entry → Prop) → Prop := fun args H K => bif isSig (sigOf args H) [100, 2, 7, 22] then f58_1_G0 args H K else f58_G args H K
theorem f58_1_G_ok : FnOk Tryd.prog glob 58 f58_1_G := FnOk.or _ f58_1_ok0 f58_G_ok
end Go.Eng.N
set_option linter.unusedVariables false
set_option maxRecDepth 100000
open Go Go.Eng Go.Proofs
namespace Go.Eng.N
/-! ### f25: plenum/notify.Gaps -/
noncomputable def f25_p22b0 (i16 : Nat) (n17 : Nat) (n18 : Int) (cs19 : List PC) (n20 : Int) (cs21 : List PC) (n22 : Int) (es23 : List (List PC)) (cs24 : List PC) (N0 : Nat → Nat → Int → (List (List PC)) → Prop) (k0 : Nat → Nat → (List (List PC)) → Prop) : Prop := bB (decide (n22 < 1440)) ((0 ≤ n22 ∧ n22 < 1440) ∧ oB (ext cs21 ((Int.toNat n22) * 1) 1) fun b25 => bB b25 (N0 i16 n17 (w64 (n22 + 1)) es23) (bB (decide (n22 > 0)) ((0 ≤ (w64 (n22 - 1)) ∧ (w64 (n22 - 1)) < 1440) ∧ oB (ext cs24 (0 + ((Int.toNat (w64 (n22 - 1))) * 1)) 1) fun b26 => bB (!b26) ((0 ≤ (w64 (((n17 : Nat) : Int) - 1)) ∧ (w64 (((n17 : Nat) : Int) - 1)) < ((n17 : Nat) : Int)) ∧ (i16 + (Int.toNat (w64 (((n17 : Nat) : Int) - 1)))) < es23.length ∧ N0 i16 n17 (w64 (n22 + 1)) (List.set es23 (i16 + (Int.toNat (w64 (((n17 : Nat) : Int) - 1)))) (splice (List.getD es23 (i16 + (Int.toNat (w64 (((n17 : Nat) : Int) - 1)))) []) 2 [pI n22]))) ((i16 + n17) = es23.length ∧ (n17 + 1) * 24 ≤ 2 ^ 46 ∧ (n17 + 1) ≤ 2 ^ 46 ∧ N0 0 (n17 + 1) (w64 (n22 + 1)) (List.drop i16 es23 ++ [[pI (w64 (n18 + 1)), pI n22, pI n22]]))) ((i16 + n17) = es23.length ∧ (n17 + 1) * 24 ≤ 2 ^ 46 ∧ (n17 + 1) ≤ 2 ^ 46 ∧ N0 0 (n17 + 1) (w64 (n22 + 1)) (List.drop i16 es23 ++ [[pI (w64 (n18 + 1)), pI n22, pI n22]])))) (k0 i16 n17 es23)
noncomputable def f25_p22 (n18 : Int) (cs19 : List PC) (n20 : Int) (cs21 : List PC) (cs24 : List PC) (k0 : Nat → Nat → (List (List PC)) → Prop) : Nat × Nat × Int × (List (List PC)) → Prop := LoopP fun x N => f25_p22b0 x.1 x.2.1 n18 cs19 n20 cs21 x.2.2.1 x.2.2.2 cs24 (fun i16 n17 n22 es23 => N (i16, n17, n22, es23)) k0
noncomputable def f25_p16b0 (i11 : Nat) (n12 : Nat) (cs13 : List PC) (n14 : Int) (es15 : List (List PC)) (N0 : Nat → Nat → Int → (List (List PC)) → Prop) (k0 : Nat → Nat → (List (List PC)) → Prop) : Prop := bB (decide (n14 < 7)) ((0 ≤ n14 ∧ n14 < 7) ∧ (ext cs13 ((Int.toNat n14) * 1440) 1440).length = 1440 ∧ (ext cs13 ((Int.toNat n14) * 1440) 1440).length = 1440 ∧ 1440 ≤ 1440 ∧ (ext (splice (List.replicate 1440 (pB false)) 0 (ext cs13 ((Int.toNat n14) * 1440) 1440)) 0 1440).length = 1440 ∧ f25_p22 n14 cs13 n14 (ext (splice (List.replicate 1440 (pB false)) 0 (ext cs13 ((Int.toNat n14) * 1440) 1440)) 0 1440) (splice (List.replicate 1440 (pB false)) 0 (ext cs13 ((Int.toNat n14) * 1440) 1440)) (fun i27 n28 es29 => N0 i27 n28 (w64 (n14 + 1)) es29) (i11, n12, 0, es15)) (k0 i11 n12 es15)
noncomputable def f25_p16 (cs13 : List PC) (k0 : Nat → Nat → (List (List PC)) → Prop) : Nat × Nat × Int × (List (List PC)) → Prop := LoopP fun x N => f25_p16b0 x.1 x.2.1 cs13 x.2.2.1 x.2.2.2 (fun i11 n12 n14 es15 => N (i11, n12, n14, es15)) k0
noncomputable def f25_d (s1 : ByteArray) (n2 : Int) (n3 : Int) (es4 : List (List PC)) (full5 : Bool) (n6 : Int) (k0 : (List (List PC)) → Bool → Int → Prop) : Prop := f16 s1 n2 n3 es4 full5 (fun n7 => bB (n7 != 0) (k0 [] true n7) (f57 n6 (fun b8 => bB (!b8) (k0 [] true 6) (f59 n6 (fun n9 => f58 es4 full5 n9 (fun cs10 => f25_p16 cs10 (fun i30 n31 es32 => k0 (List.take n31 (List.drop i30 es32)) false 0) (0, 0, 0, [])))))))
structure f25 (s1 : ByteArray) (n2 : Int) (n3 : Int) (es4 : List (List PC)) (full5 : Bool) (n6 : Int) (k0 : (List (List PC)) → Bool → Int → Prop) : Prop where
  run : f25_d s1 n2 n3 es4 full5 n6 k0
noncomputable def f25_p22L : Told := fun s K => match s with
  | ⟨tm, hp⟩ => getS [.skip 7, .v (.one (.ref 0)), .v (.one (.int .i64)), .v (.one (.ptr 1 0 0)), .skip 15, .v (.cells), .v (.one (.int .i64)), .skip 3, .v (.cells), .v (.one (.int .i64)), .skip 32] [.vec 3 true, .pbox] tm hp fun (xx : (Unit × ((Nat × Nat) × (Int × (Unit × (Unit × ((List PC) × (Int × (Unit × ((List PC) × (Int × (Unit × Unit)))))))))))) (yy : ((List (List PC)) × ((List PC) × Unit))) => f25_p22 xx.2.2.1 xx.2.2.2.2.2.1 xx.2.2.2.2.2.2.1 xx.2.2.2.2.2.2.2.2.1 yy.2.1 (fun i0_0 n0_1 es0_2 => K (.exit 2) ⟨mkS 64 [(7, .w (.one (.ref 0 i0_0 n0_1))), (25, .w (.pagg xx.2.2.2.2.2.1)), (26, I xx.2.2.2.2.2.2.1)], [.vec 3 es0_2 true]⟩) (xx.2.1.1, xx.2.1.2, xx.2.2.2.2.2.2.2.2.2.1, yy.1)
noncomputable def f25_p16L : Told := fun s K => match s with
  | ⟨tm, hp⟩ => getS [.skip 7, .v (.one (.ref 0)), .skip 17, .v (.cells), .v (.one (.int .i64)), .skip 37] [.vec 3 true] tm hp fun (xx : (Unit × ((Nat × Nat) × (Unit × ((List PC) × (Int × (Unit × Unit))))))) (yy : ((List (List PC)) × Unit)) => f25_p16 xx.2.2.2.1 (fun i0_3 n0_4 es0_5 => K (.exit 0) ⟨mkS 64 [(7, .w (.one (.ref 0 i0_3 n0_4)))], [.vec 3 es0_5 true]⟩) (xx.2.1.1, xx.2.1.2, xx.2.2.2.2.1, yy.1)
noncomputable def f25_tab : List (Nat × Told) := [(22, f25_p22L), (16, f25_p16L)]
noncomputable def f25_call : FuncId → List TV → List Entry → (TV → List Entry → Prop) → Prop := addCall 59 f59_G (addCall 58 f58_G (addCall 57 f57_G (addCall 16 f16_G (noCalls))))
noncomputable def f25_C : Ctx := { ty := tyOf tab, glob := glob, byRef := byRef, keep := fun k i => lookN [] (lookN [] ([(22, [(0, [7, 8, 9, 25, 26, 30, 31]), (2, [4, 5]), (3, [7]), (4, [7, 25, 26]), (5, [7, 25, 26])]), (16, [(0, [7, 25, 26]), (2, [4, 5]), (3, [7])])] : List (Nat × List (Nat × List Nat))) k) i, late := lookN [] ([] : List (Nat × List Nat)), nref := lookN [] ([(22, [7]), (16, [7])] : List (Nat × List Nat)), nbox := lookN [] ([] : List (Nat × List (Nat × Nat))), take := [], rnil := false, m := 0, fz := true, loops := lookL f25_tab, call := f25_call }
noncomputable def f25_p22_mk (n18 : Int) (cs19 : List PC) (n20 : Int) (cs21 : List PC) (cs24 : List PC) (x : Nat × Nat × Int × (List (List PC))) : St := ⟨mkS 64 [(7, .w (.one (.ref 0 x.1 x.2.1))), (8, I n18), (9, .w (.one (.ptr 1 0 0))), (25, .w (.pagg cs19)), (26, I n20), (30, .w (.pagg cs21)), (31, I x.2.2.1)], [.vec 3 x.2.2.2 true, .pbox cs24]⟩
set_option maxRecDepth 100000 in
theorem f25_p22e0 (i_18 : Nat) (n_19 : Nat) (n_20 : Int) (cs_21 : List PC) (n_22 : Int) (cs_23 : List PC) (n_24 : Int) (es_25 : List (List PC)) (cs_26 : List PC) (N : St → Prop) (K : TExit → St → Prop) : (f25_p22b0 i_18 n_19 n_20 cs_21 n_22 cs_23 n_24 es_25 cs_26 (fun z0 z1 z6 z7 => N (f25_p22_mk n_20 cs_21 n_22 cs_23 cs_26 (z0, z1, z6, z7))) (fun i0_27 n0_28 es0_29 => K (.exit 2) ⟨mkS 64 [(7, .w (.one (.ref 0 i0_27 n0_28))), (25, .w (.pagg cs_21)), (26, I n_22)], [.vec 3 es0_29 true]⟩)) = execT f25_C (nthC (bodies (bodyOf Tryd.f25)) 1) (f25_p22_mk n_20 cs_21 n_22 cs_23 cs_26 (i_18, n_19, n_24, es_25)) (loopK N (normK f25_C 22) fun e s => K e (normOut f25_C 22 e s)) := by kernel_rfl
noncomputable def f25_p16_mk (cs13 : List PC) (x : Nat × Nat × Int × (List (List PC))) : St := ⟨mkS 64 [(7, .w (.one (.ref 0 x.1 x.2.1))), (25, .w (.pagg cs13)), (26, I x.2.2.1)], [.vec 3 x.2.2.2 true]⟩
set_option maxRecDepth 100000 in
theorem f25_p16e0 (i_35 : Nat) (n_36 : Nat) (cs_37 : List PC) (n_38 : Int) (es_39 : List (List PC)) (N : St → Prop) (K : TExit → St → Prop) : (f25_p16b0 i_35 n_36 cs_37 n_38 es_39 (fun z0 z1 z3 z4 => N (f25_p16_mk cs_37 (z0, z1, z3, z4))) (fun i0_40 n0_41 es0_42 => K (.exit 0) ⟨mkS 64 [(7, .w (.one (.ref 0 i0_40 n0_41)))], [.vec 3 es0_42 true]⟩)) = execT f25_C (nthC (bodies (bodyOf Tryd.f25)) 0) (f25_p16_mk cs_37 (i_35, n_36, n_38, es_39)) (loopK N (normK f25_C 16) fun e s => K e (normOut f25_C 16 e s)) := by kernel_rfl
set_option maxHeartbeats 4000000 in
theorem f25_p22_ok : LoopOk f25_C (nthC (bodies (bodyOf Tryd.f25)) 1) := by
  refine LoopOk.of f25_p22L (by kernel_rfl) fun σ K h => ?_
  have hk : loopKey (nthC (bodies (bodyOf Tryd.f25)) 1) = 22 := by kernel_rfl
  rw [hk] at h ⊢
  generalize hs : normK f25_C 22 σ = s at h
  obtain ⟨tm, hp⟩ := s
  unfold f25_p22L at h
  dsimp only at h
  obtain ⟨xx, yy, rfl, rfl, h⟩ := getS_elim h
  refine iter_of (f25_p22_mk xx.2.2.1 xx.2.2.2.2.2.1 xx.2.2.2.2.2.2.1 xx.2.2.2.2.2.2.2.2.1 yy.2.1) (fun x N h => ?_) rounds _ σ (hs.trans (by kernel_rfl)) (LoopP.run h)
  obtain ⟨y0, y1, y2, y3⟩ := x
  rw [← f25_p22e0 y0 y1 xx.2.2.1 xx.2.2.2.2.2.1 xx.2.2.2.2.2.2.1 xx.2.2.2.2.2.2.2.2.1 y2 y3 yy.2.1 N K]
  exact h
set_option maxHeartbeats 4000000 in
theorem f25_p16_ok : LoopOk f25_C (nthC (bodies (bodyOf Tryd.f25)) 0) := by
  refine LoopOk.of f25_p16L (by kernel_rfl) fun σ K h => ?_
  have hk : loopKey (nthC (bodies (bodyOf Tryd.f25)) 0) = 16 := by kernel_rfl
  rw [hk] at h ⊢
  generalize hs : normK f25_C 16 σ = s at h
  obtain ⟨tm, hp⟩ := s
  unfold f25_p16L at h
  dsimp only at h
  obtain ⟨xx, yy, rfl, rfl, h⟩ := getS_elim h
  refine iter_of (f25_p16_mk xx.2.2.2.1) (fun x N h => ?_) rounds _ σ (hs.trans (by kernel_rfl)) (LoopP.run h)
  obtain ⟨y0, y1, y2, y3⟩ := x
  rw [← f25_p16e0 y0 y1 xx.2.2.2.1 y2 y3 N K]
  exact h
noncomputable def f25_G0 : List TV → List Entry → (TV → List Entry → Prop) → Prop := fun tm hp K => getS [.v (.pagg [.str, .int .i64, .int .i64, .sl 5]), .v (.one (.int .i64))] [] tm hp fun (xx : ((ByteArray × (Int × (Int × ((List (List PC) × Bool) × Unit)))) × (Int × Unit))) (yy : Unit) => f25 xx.1.1 xx.1.2.1 xx.1.2.2.1 xx.1.2.2.2.1.1 xx.1.2.2.2.1.2 xx.2.1 (fun es0_6 full0_7 n0_8 => K (.tup [.one (.p (.sl 3 es0_6 full0_7)), .one (.p (pI n0_8))]) [])
set_option maxRecDepth 100000 in
theorem f25_eq (s_43 : ByteArray) (n_44 : Int) (n_45 : Int) (es_46 : List (List PC)) (full_47 : Bool) (n_48 : Int) (K : TV → List Entry → Prop) : (f25_d s_43 n_44 n_45 es_46 full_47 n_48 (fun es0_6 full0_7 n0_8 => K (.tup [.one (.p (.sl 3 es0_6 full0_7)), .one (.p (pI n0_8))]) [])) = funcT f25_C Tryd.f25 [.w (.pagg [pS s_43, pI n_44, pI n_45, .sl 5 es_46 full_47]), I n_48] [] K := by kernel_rfl
set_option maxHeartbeats 4000000 in
theorem f25_ok0 : FnOk Tryd.prog glob 25 f25_G0 := by
  refine FnOk.of_text (C := f25_C) tab_ok.ok (Known.add f59_G_ok (Known.add f58_G_ok (Known.add f57_G_ok (Known.add f16_G_ok (Known.none))))) follows_ok (fn := Tryd.f25) (by kernel_rfl) (by kernel_rfl) (by kernel_rfl) (fun c hc => ?_) fun tm hp K h => ?_
  · have e : c = bodyOf Tryd.f25 := Option.some.inj (hc.symm.trans (by kernel_rfl))
    subst e
    exact ⟨LoopsOk.of [nthC (bodies (bodyOf Tryd.f25)) 0, nthC (bodies (bodyOf Tryd.f25)) 1] (by kernel_rfl) ⟨f25_p16_ok, f25_p22_ok, trivial⟩, TailsOk.of (tab := f25_tab) rfl [] (by kernel_rfl) trivial⟩
  · unfold f25_G0 at h
    obtain ⟨xx, yy, rfl, rfl, h⟩ := getS_elim h
    have e := (f25_eq xx.1.1 xx.1.2.1 xx.1.2.2.1 xx.1.2.2.2.1.1 xx.1.2.2.2.1.2 xx.2.1 K).trans (show _ = funcT f25_C Tryd.f25 (mkR _ xx) (mkE _ yy) K by kernel_rfl)
    rw [← e]
    exact h.run
noncomputable abbrev f25_G := f25_G0
theorem f25_G_ok : FnOk Tryd.prog glob 25 f25_G := f25_ok0
end Go.Eng.N
set_option linter.unusedVariables false
set_option maxRecDepth 100000
open Go Go.Eng Go.Proofs
namespace Go.Eng.N
/-! ### f60: plenum/plenumref39.anyone -/
noncomputable def f60_p4b0 (n9 : Int) (n10 : Int) (n11 : Int) (n12 : Int) (s13 : ByteArray) (n14 : Int) (n15 : Int) (es16 : List (List PC)) (full17 : Bool) (N0 : Int → Prop) (k0 : Bool → Prop) (k1 : Unit → Prop) : Prop := bB (decide (n12 < ((es16.length : Nat) : Int))) ((0 ≤ n12 ∧ n12 < ((es16.length : Nat) : Int)) ∧ cS (ext (List.getD es16 (Int.toNat n12) []) 0 5) fun s19 r18 => cI .i64 r18 fun n21 r20 => cI .i64 r20 fun n23 r22 => cI .i64 r22 fun n25 r24 => cI .i64 r24 fun n27 r26 => nilC r26 <| f94 s19 n21 n23 n25 n27 n9 n10 n11 (fun b28 => bB b28 (k0 true) (N0 (w64 (n12 + 1))))) (k1 ())
noncomputable def f60_p4 (n9 : Int) (n10 : Int) (n11 : Int) (s13 : ByteArray) (n14 : Int) (n15 : Int) (es16 : List (List PC)) (full17 : Bool) (k0 : Bool → Prop) (k1 : Unit → Prop) : Int → Prop := LoopP fun x N => f60_p4b0 n9 n10 n11 x s13 n14 n15 es16 full17 (fun n12 => N n12) k0 k1
noncomputable def f60_d (s1 : ByteArray) (n2 : Int) (n3 : Int) (es4 : List (List PC)) (full5 : Bool) (n6 : Int) (n7 : Int) (n8 : Int) (k0 : Bool → Prop) : Prop := f60_p4 n6 n7 n8 s1 n2 n3 es4 full5 (fun b29 => k0 b29) (fun (_ : Unit) => k0 false) 0
structure f60 (s1 : ByteArray) (n2 : Int) (n3 : Int) (es4 : List (List PC)) (full5 : Bool) (n6 : Int) (n7 : Int) (n8 : Int) (k0 : Bool → Prop) : Prop where
  run : f60_d s1 n2 n3 es4 full5 n6 n7 n8 k0
noncomputable def f60_p4L : Told := fun s K => match s with
  | ⟨tm, hp⟩ => getS [.skip 1, .v (.one (.int .i64)), .v (.one (.int .i64)), .v (.one (.int .i64)), .v (.one (.ptr 0 0 0)), .skip 4, .v (.one (.int .i64)), .skip 16] [.box [.str, .int .i64, .int .i64, .sl 5]] tm hp fun (xx : (Unit × (Int × (Int × (Int × (Unit × (Unit × (Int × (Unit × Unit))))))))) (yy : ((ByteArray × (Int × (Int × ((List (List PC) × Bool) × Unit)))) × Unit)) => f60_p4 xx.2.1 xx.2.2.1 xx.2.2.2.1 yy.1.1 yy.1.2.1 yy.1.2.2.1 yy.1.2.2.2.1.1 yy.1.2.2.2.1.2 (fun b0_0 => K .ret ⟨mkS 26 [(8, B b0_0)], []⟩) (fun (_ : Unit) => K (.exit 0) ⟨mkS 26 [], []⟩) xx.2.2.2.2.2.2.1
noncomputable def f60_tab : List (Nat × Told) := [(4, f60_p4L)]
noncomputable def f60_call : FuncId → List TV → List Entry → (TV → List Entry → Prop) → Prop := addCall 94 f94_G (noCalls)
noncomputable def f60_C : Ctx := { ty := tyOf tab, glob := glob, byRef := byRef, keep := fun k i => lookN [] (lookN [] ([(4, [(0, [1, 2, 3, 4, 9]), (2, [8]), (3, [])])] : List (Nat × List (Nat × List Nat))) k) i, late := lookN [] ([] : List (Nat × List Nat)), nref := lookN [] ([] : List (Nat × List Nat)), nbox := lookN [] ([] : List (Nat × List (Nat × Nat))), take := [], rnil := false, m := 0, fz := true, loops := lookL f60_tab, call := f60_call }
noncomputable def f60_p4_mk (n9 : Int) (n10 : Int) (n11 : Int) (s13 : ByteArray) (n14 : Int) (n15 : Int) (es16 : List (List PC)) (full17 : Bool) (x : Int) : St := ⟨mkS 26 [(1, I n9), (2, I n10), (3, I n11), (4, .w (.one (.ptr 0 0 0))), (9, I x)], [.box [.p (pS s13), .p (pI n14), .p (pI n15), .p (.sl 5 es16 full17)]]⟩
set_option maxRecDepth 100000 in
theorem f60_p4e0 (n_11 : Int) (n_12 : Int) (n_13 : Int) (n_14 : Int) (s_15 : ByteArray) (n_16 : Int) (n_17 : Int) (es_18 : List (List PC)) (full_19 : Bool) (N : St → Prop) (K : TExit → St → Prop) : (f60_p4b0 n_11 n_12 n_13 n_14 s_15 n_16 n_17 es_18 full_19 (fun z3 => N (f60_p4_mk n_11 n_12 n_13 s_15 n_16 n_17 es_18 full_19 z3)) (fun b0_20 => K .ret ⟨mkS 26 [(8, B b0_20)], []⟩) (fun (_ : Unit) => K (.exit 0) ⟨mkS 26 [], []⟩)) = execT f60_C (nthC (bodies (bodyOf Tryd.f60)) 0) (f60_p4_mk n_11 n_12 n_13 s_15 n_16 n_17 es_18 full_19 n_14) (loopK N (normK f60_C 4) fun e s => K e (normOut f60_C 4 e s)) := by kernel_rfl
set_option maxHeartbeats 4000000 in
theorem f60_p4_ok : LoopOk f60_C (nthC (bodies (bodyOf Tryd.f60)) 0) := by
  refine LoopOk.of f60_p4L (by kernel_rfl) fun σ K h => ?_
  have hk : loopKey (nthC (bodies (bodyOf Tryd.f60)) 0) = 4 := by kernel_rfl
  rw [hk] at h ⊢
  generalize hs : normK f60_C 4 σ = s at h
  obtain ⟨tm, hp⟩ := s
  unfold f60_p4L at h
  dsimp only at h
  obtain ⟨xx, yy, rfl, rfl, h⟩ := getS_elim h
  refine iter_of (f60_p4_mk xx.2.1 xx.2.2.1 xx.2.2.2.1 yy.1.1 yy.1.2.1 yy.1.2.2.1 yy.1.2.2.2.1.1 yy.1.2.2.2.1.2) (fun x N h => ?_) rounds _ σ (hs.trans (by kernel_rfl)) (LoopP.run h)
  rw [← f60_p4e0 xx.2.1 xx.2.2.1 xx.2.2.2.1 x yy.1.1 yy.1.2.1 yy.1.2.2.1 yy.1.2.2.2.1.1 yy.1.2.2.2.1.2 N K]
  exact h
noncomputable def f60_G0 : List TV → List Entry → (TV → List Entry → Prop) → Prop := fun tm hp K => getS [.v (.pagg [.str, .int .i64, .int .i64, .sl 5]), .v (.one (.int .i64)), .v (.one (.int .i64)), .v (.one (.int .i64))] [] tm hp fun (xx : ((ByteArray × (Int × (Int × ((List (List PC) × Bool) × Unit)))) × (Int × (Int × (Int × Unit))))) (yy : Unit) => f60 xx.1.1 xx.1.2.1 xx.1.2.2.1 xx.1.2.2.2.1.1 xx.1.2.2.2.1.2 xx.2.1 xx.2.2.1 xx.2.2.2.1 (fun b0_1 => K (B b0_1) [])
set_option maxRecDepth 100000 in
theorem f60_eq (s_21 : ByteArray) (n_22 : Int) (n_23 : Int) (es_24 : List (List PC)) (full_25 : Bool) (n_26 : Int) (n_27 : Int) (n_28 : Int) (K : TV → List Entry → Prop) : (f60_d s_21 n_22 n_23 es_24 full_25 n_26 n_27 n_28 (fun b0_1 => K (B b0_1) [])) = funcT f60_C Tryd.f60 [.w (.pagg [pS s_21, pI n_22, pI n_23, .sl 5 es_24 full_25]), I n_26, I n_27, I n_28] [] K := by kernel_rfl
set_option maxHeartbeats 4000000 in
theorem f60_ok0 : FnOk Tryd.prog glob 60 f60_G0 := by
  refine FnOk.of_text (C := f60_C) tab_ok.ok (Known.add f94_G_ok (Known.none)) follows_ok (fn := Tryd.f60) (by kernel_rfl) (by kernel_rfl) (by kernel_rfl) (fun c hc => ?_) fun tm hp K h => ?_
  · have e : c = bodyOf Tryd.f60 := Option.some.inj (hc.symm.trans (by kernel_rfl))
    subst e
    exact ⟨LoopsOk.of [nthC (bodies (bodyOf Tryd.f60)) 0] (by kernel_rfl) ⟨f60_p4_ok, trivial⟩, TailsOk.of (tab := f60_tab) rfl [] (by kernel_rfl) trivial⟩
  · unfold f60_G0 at h
    obtain ⟨xx, yy, rfl, rfl, h⟩ := getS_elim h
    have e := (f60_eq xx.1.1 xx.1.2.1 xx.1.2.2.1 xx.1.2.2.2.1.1 xx.1.2.2.2.1.2 xx.2.1 xx.2.2.1 xx.2.2.2.1 K).trans (show _ = funcT f60_C Tryd.f60 (mkR _ xx) (mkE _ yy) K by kernel_rfl)
    rw [← e]
    exact h.run
noncomputable abbrev f60_G := f60_G0
theorem f60_G_ok : FnOk Tryd.prog glob 60 f60_G := f60_ok0
end Go.Eng.N
set_option linter.unusedVariables false
set_option maxRecDepth 100000
open Go Go.Eng Go.Proofs
namespace Go.Eng.N
/-! ### f26: plenum/plenumref39.Gaps -/
noncomputable def f26_p35 (n46 : Int) (i47 : Nat) (n48 : Nat) (n49 : Int) (n50 : Int) (n51 : Int) (b52 : Bool) (s53 : ByteArray) (n54 : Int) (n55 : Int) (es56 : List (List PC)) (full57 : Bool) (es58 : List (List PC)) (k0 : Nat → Nat → Int → (List (List PC)) → Prop) : Prop := bB (!b52) (bB (decide (n50 ≥ 0)) ((i47 + n48) = es58.length ∧ (n48 + 1) * 24 ≤ 2 ^ 46 ∧ (n48 + 1) ≤ 2 ^ 46 ∧ k0 0 (n48 + 1) (-1) (List.drop i47 es58 ++ [[pI (w64 (n49 + 1)), pI n50, pI (w64 (n51 - 1))]])) (k0 i47 n48 n50 es58)) (k0 i47 n48 n50 es58)
noncomputable def f26_p31 (n33 : Int) (i34 : Nat) (n35 : Nat) (n36 : Int) (n37 : Int) (n38 : Int) (b39 : Bool) (s40 : ByteArray) (n41 : Int) (n42 : Int) (es43 : List (List PC)) (full44 : Bool) (es45 : List (List PC)) (k0 : Nat → Nat → Int → (List (List PC)) → Prop) : Prop := bB b39 (bB (decide (n37 < 0)) (f26_p35 n33 i34 n35 n36 n38 n38 b39 s40 n41 n42 es43 full44 es45 (fun i59 n60 n61 es62 => k0 i59 n60 n61 es62)) (f26_p35 n33 i34 n35 n36 n37 n38 b39 s40 n41 n42 es43 full44 es45 (fun i63 n64 n65 es66 => k0 i63 n64 n65 es66))) (f26_p35 n33 i34 n35 n36 n37 n38 b39 s40 n41 n42 es43 full44 es45 (fun i67 n68 n69 es70 => k0 i67 n68 n69 es70))
noncomputable def f26_p24b0 (n19 : Int) (i20 : Nat) (n21 : Nat) (n22 : Int) (n23 : Int) (n24 : Int) (s25 : ByteArray) (n26 : Int) (n27 : Int) (es28 : List (List PC)) (full29 : Bool) (es30 : List (List PC)) (N0 : Nat → Nat → Int → Int → (List (List PC)) → Prop) (k0 : Nat → Nat → (List (List PC)) → Prop) : Prop := bB (decide (n24 ≤ 1440)) (bB (decide (n24 < 1440)) (f56 n19 (fun n31 => f60 s25 n26 n27 es28 full29 n22 n24 n31 (fun b32 => f26_p31 n19 i20 n21 n22 n23 n24 (!b32) s25 n26 n27 es28 full29 es30 (fun i71 n72 n73 es74 => N0 i71 n72 n73 (w64 (n24 + 1)) es74)))) (f26_p31 n19 i20 n21 n22 n23 n24 false s25 n26 n27 es28 full29 es30 (fun i75 n76 n77 es78 => N0 i75 n76 n77 (w64 (n24 + 1)) es78))) (k0 i20 n21 es30)
noncomputable def f26_p24 (n19 : Int) (n22 : Int) (s25 : ByteArray) (n26 : Int) (n27 : Int) (es28 : List (List PC)) (full29 : Bool) (k0 : Nat → Nat → (List (List PC)) → Prop) : Nat × Nat × Int × Int × (List (List PC)) → Prop := LoopP fun x N => f26_p24b0 n19 x.1 x.2.1 n22 x.2.2.1 x.2.2.2.1 s25 n26 n27 es28 full29 x.2.2.2.2 (fun i20 n21 n23 n24 es30 => N (i20, n21, n23, n24, es30)) k0
noncomputable def f26_p16b0 (n9 : Int) (i10 : Nat) (n11 : Nat) (n12 : Int) (s13 : ByteArray) (n14 : Int) (n15 : Int) (es16 : List (List PC)) (full17 : Bool) (es18 : List (List PC)) (N0 : Nat → Nat → Int → (List (List PC)) → Prop) (k0 : Nat → Nat → (List (List PC)) → Prop) : Prop := bB (decide (n12 < 7)) (f26_p24 n9 n12 s13 n14 n15 es16 full17 (fun i79 n80 es81 => N0 i79 n80 (w64 (n12 + 1)) es81) (i10, n11, (-1), 0, es18)) (k0 i10 n11 es18)
noncomputable def f26_p16 (n9 : Int) (s13 : ByteArray) (n14 : Int) (n15 : Int) (es16 : List (List PC)) (full17 : Bool) (k0 : Nat → Nat → (List (List PC)) → Prop) : Nat × Nat × Int × (List (List PC)) → Prop := LoopP fun x N => f26_p16b0 n9 x.1 x.2.1 x.2.2.1 s13 n14 n15 es16 full17 x.2.2.2 (fun i10 n11 n12 es18 => N (i10, n11, n12, es18)) k0
noncomputable def f26_d (s1 : ByteArray) (n2 : Int) (n3 : Int) (es4 : List (List PC)) (full5 : Bool) (n6 : Int) (k0 : (List (List PC)) → Bool → Int → Prop) : Prop := f17 s1 n2 n3 es4 full5 (fun n7 => bB (n7 != 0) (k0 [] true n7) (f53 0 n6 (fun b8 => bB (!b8) (k0 [] true 6) (f26_p16 n6 s1 n2 n3 es4 full5 (fun i82 n83 es84 => k0 (List.take n83 (List.drop i82 es84)) false 0) (0, 0, 0, [])))))
structure f26 (s1 : ByteArray) (n2 : Int) (n3 : Int) (es4 : List (List PC)) (full5 : Bool) (n6 : Int) (k0 : (List (List PC)) → Bool → Int → Prop) : Prop where
  run : f26_d s1 n2 n3 es4 full5 n6 k0
noncomputable def f26_p35L : Told := fun s K => match s with
  | ⟨tm, hp⟩ => getS [.skip 1, .v (.one (.int .i64)), .v (.one (.ptr 0 0 0)), .skip 4, .v (.one (.ref 1)), .v (.one (.int .i64)), .v (.one (.int .i64)), .v (.one (.int .i64)), .v (.one (.bool)), .skip 50] [.box [.str, .int .i64, .int .i64, .sl 5], .vec 3 true] tm hp fun (xx : (Unit × (Int × (Unit × (Unit × ((Nat × Nat) × (Int × (Int × (Int × (Bool × (Unit × Unit))))))))))) (yy : ((ByteArray × (Int × (Int × ((List (List PC) × Bool) × Unit)))) × ((List (List PC)) × Unit))) => f26_p35 xx.2.1 xx.2.2.2.2.1.1 xx.2.2.2.2.1.2 xx.2.2.2.2.2.1 xx.2.2.2.2.2.2.1 xx.2.2.2.2.2.2.2.1 xx.2.2.2.2.2.2.2.2.1 yy.1.1 yy.1.2.1 yy.1.2.2.1 yy.1.2.2.2.1.1 yy.1.2.2.2.1.2 yy.2.1 (fun i0_0 n0_1 n0_2 es0_3 => K .normal ⟨mkS 62 [(1, I xx.2.1), (2, .w (.one (.ptr 0 0 0))), (7, .w (.one (.ref 1 i0_0 n0_1))), (8, I xx.2.2.2.2.2.1), (9, I n0_2), (10, I xx.2.2.2.2.2.2.2.1)], [.box [.p (pS yy.1.1), .p (pI yy.1.2.1), .p (pI yy.1.2.2.1), .p (.sl 5 yy.1.2.2.2.1.1 yy.1.2.2.2.1.2)], .vec 3 es0_3 true]⟩)
noncomputable def f26_p31L : Told := fun s K => match s with
  | ⟨tm, hp⟩ => getS [.skip 1, .v (.one (.int .i64)), .v (.one (.ptr 0 0 0)), .skip 4, .v (.one (.ref 1)), .v (.one (.int .i64)), .v (.one (.int .i64)), .v (.one (.int .i64)), .v (.one (.bool)), .skip 50] [.box [.str, .int .i64, .int .i64, .sl 5], .vec 3 true] tm hp fun (xx : (Unit × (Int × (Unit × (Unit × ((Nat × Nat) × (Int × (Int × (Int × (Bool × (Unit × Unit))))))))))) (yy : ((ByteArray × (Int × (Int × ((List (List PC) × Bool) × Unit)))) × ((List (List PC)) × Unit))) => f26_p31 xx.2.1 xx.2.2.2.2.1.1 xx.2.2.2.2.1.2 xx.2.2.2.2.2.1 xx.2.2.2.2.2.2.1 xx.2.2.2.2.2.2.2.1 xx.2.2.2.2.2.2.2.2.1 yy.1.1 yy.1.2.1 yy.1.2.2.1 yy.1.2.2.2.1.1 yy.1.2.2.2.1.2 yy.2.1 (fun i0_4 n0_5 n0_6 es0_7 => K .normal ⟨mkS 62 [(1, I xx.2.1), (2, .w (.one (.ptr 0 0 0))), (7, .w (.one (.ref 1 i0_4 n0_5))), (8, I xx.2.2.2.2.2.1), (9, I n0_6), (10, I xx.2.2.2.2.2.2.2.1)], [.box [.p (pS yy.1.1), .p (pI yy.1.2.1), .p (pI yy.1.2.2.1), .p (.sl 5 yy.1.2.2.2.1.1 yy.1.2.2.2.1.2)], .vec 3 es0_7 true]⟩)
noncomputable def f26_p24L : Told := fun s K => match s with
  | ⟨tm, hp⟩ => getS [.skip 1, .v (.one (.int .i64)), .v (.one (.ptr 0 0 0)), .skip 4, .v (.one (.ref 1)), .v (.one (.int .i64)), .v (.one (.int .i64)), .v (.one (.int .i64)), .skip 51] [.box [.str, .int .i64, .int .i64, .sl 5], .vec 3 true] tm hp fun (xx : (Unit × (Int × (Unit × (Unit × ((Nat × Nat) × (Int × (Int × (Int × (Unit × Unit)))))))))) (yy : ((ByteArray × (Int × (Int × ((List (List PC) × Bool) × Unit)))) × ((List (List PC)) × Unit))) => f26_p24 xx.2.1 xx.2.2.2.2.2.1 yy.1.1 yy.1.2.1 yy.1.2.2.1 yy.1.2.2.2.1.1 yy.1.2.2.2.1.2 (fun i0_8 n0_9 es0_10 => K (.exit 2) ⟨mkS 62 [(1, I xx.2.1), (2, .w (.one (.ptr 0 0 0))), (7, .w (.one (.ref 1 i0_8 n0_9))), (8, I xx.2.2.2.2.2.1)], [.box [.p (pS yy.1.1), .p (pI yy.1.2.1), .p (pI yy.1.2.2.1), .p (.sl 5 yy.1.2.2.2.1.1 yy.1.2.2.2.1.2)], .vec 3 es0_10 true]⟩) (xx.2.2.2.2.1.1, xx.2.2.2.2.1.2, xx.2.2.2.2.2.2.1, xx.2.2.2.2.2.2.2.1, yy.2.1)
noncomputable def f26_p16L : Told := fun s K => match s with
  | ⟨tm, hp⟩ => getS [.skip 1, .v (.one (.int .i64)), .v (.one (.ptr 0 0 0)), .skip 4, .v (.one (.ref 1)), .v (.one (.int .i64)), .skip 53] [.box [.str, .int .i64, .int .i64, .sl 5], .vec 3 true] tm hp fun (xx : (Unit × (Int × (Unit × (Unit × ((Nat × Nat) × (Int × (Unit × Unit)))))))) (yy : ((ByteArray × (Int × (Int × ((List (List PC) × Bool) × Unit)))) × ((List (List PC)) × Unit))) => f26_p16 xx.2.1 yy.1.1 yy.1.2.1 yy.1.2.2.1 yy.1.2.2.2.1.1 yy.1.2.2.2.1.2 (fun i0_11 n0_12 es0_13 => K (.exit 0) ⟨mkS 62 [(7, .w (.one (.ref 0 i0_11 n0_12)))], [.vec 3 es0_13 true]⟩) (xx.2.2.2.2.1.1, xx.2.2.2.2.1.2, xx.2.2.2.2.2.1, yy.2.1)
noncomputable def f26_tab : List (Nat × Told) := [(35, f26_p35L), (31, f26_p31L), (24, f26_p24L), (16, f26_p16L)]
noncomputable def f26_call : FuncId → List TV → List Entry → (TV → List Entry → Prop) → Prop := addCall 60 f60_G (addCall 56 f56_G (addCall 53 f53_G (addCall 17 f17_G (noCalls))))
noncomputable def f26_C : Ctx := { ty := tyOf tab, glob := glob, byRef := byRef, keep := fun k i => lookN [] (lookN [] ([(35, [(0, [1, 2, 7, 8, 9, 10, 11]), (1, [1, 2, 7, 8, 9, 10]), (2, [4, 5]), (3, [7]), (4, [1, 2, 7, 8]), (5, [1, 2, 7, 8]), (6, [1, 2, 7, 8, 9, 10])]), (31, [(0, [1, 2, 7, 8, 9, 10, 11]), (1, [1, 2, 7, 8, 9, 10]), (2, [4, 5]), (3, [7]), (4, [1, 2, 7, 8]), (5, [1, 2, 7, 8]), (6, [1, 2, 7, 8, 9, 10])]), (24, [(0, [1, 2, 7, 8, 9, 10]), (2, [4, 5]), (3, [7]), (4, [1, 2, 7, 8]), (5, [1, 2, 7, 8])]), (16, [(0, [1, 2, 7, 8]), (2, [4, 5]), (3, [7])])] : List (Nat × List (Nat × List Nat))) k) i, late := lookN [] ([] : List (Nat × List Nat)), nref := lookN [] ([] : List (Nat × List Nat)), nbox := lookN [] ([] : List (Nat × List (Nat × Nat))), take := [], rnil := false, m := 0, fz := true, loops := lookL f26_tab, call := f26_call }
set_option maxRecDepth 100000 in
theorem f26_p35e0 (n_17 : Int) (i_18 : Nat) (n_19 : Nat) (n_20 : Int) (n_21 : Int) (n_22 : Int) (b_23 : Bool) (s_24 : ByteArray) (n_25 : Int) (n_26 : Int) (es_27 : List (List PC)) (full_28 : Bool) (es_29 : List (List PC)) (K : TExit → St → Prop) : (f26_p35 n_17 i_18 n_19 n_20 n_21 n_22 b_23 s_24 n_25 n_26 es_27 full_28 es_29 (fun i0_30 n0_31 n0_32 es0_33 => K .normal ⟨mkS 62 [(1, I n_17), (2, .w (.one (.ptr 0 0 0))), (7, .w (.one (.ref 1 i0_30 n0_31))), (8, I n_20), (9, I n0_32), (10, I n_22)], [.box [.p (pS s_24), .p (pI n_25), .p (pI n_26), .p (.sl 5 es_27 full_28)], .vec 3 es0_33 true]⟩)) = execT f26_C (nthC (tails (bodyOf Tryd.f26)) 20) ⟨mkS 62 [(1, I n_17), (2, .w (.one (.ptr 0 0 0))), (7, .w (.one (.ref 1 i_18 n_19))), (8, I n_20), (9, I n_21), (10, I n_22), (11, B b_23)], [.box [.p (pS s_24), .p (pI n_25), .p (pI n_26), .p (.sl 5 es_27 full_28)], .vec 3 es_29 true]⟩ (fun e s => K e (normOut f26_C 35 e s)) := by kernel_rfl
set_option maxRecDepth 100000 in
theorem f26_p31e0 (n_34 : Int) (i_35 : Nat) (n_36 : Nat) (n_37 : Int) (n_38 : Int) (n_39 : Int) (b_40 : Bool) (s_41 : ByteArray) (n_42 : Int) (n_43 : Int) (es_44 : List (List PC)) (full_45 : Bool) (es_46 : List (List PC)) (K : TExit → St → Prop) : (f26_p31 n_34 i_35 n_36 n_37 n_38 n_39 b_40 s_41 n_42 n_43 es_44 full_45 es_46 (fun i0_47 n0_48 n0_49 es0_50 => K .normal ⟨mkS 62 [(1, I n_34), (2, .w (.one (.ptr 0 0 0))), (7, .w (.one (.ref 1 i0_47 n0_48))), (8, I n_37), (9, I n0_49), (10, I n_39)], [.box [.p (pS s_41), .p (pI n_42), .p (pI n_43), .p (.sl 5 es_44 full_45)], .vec 3 es0_50 true]⟩)) = execT f26_C (nthC (tails (bodyOf Tryd.f26)) 19) ⟨mkS 62 [(1, I n_34), (2, .w (.one (.ptr 0 0 0))), (7, .w (.one (.ref 1 i_35 n_36))), (8, I n_37), (9, I n_38), (10, I n_39), (11, B b_40)], [.box [.p (pS s_41), .p (pI n_42), .p (pI n_43), .p (.sl 5 es_44 full_45)], .vec 3 es_46 true]⟩ (fun e s => K e (normOut f26_C 31 e s)) := by kernel_rfl
noncomputable def f26_p24_mk (n19 : Int) (n22 : Int) (s25 : ByteArray) (n26 : Int) (n27 : Int) (es28 : List (List PC)) (full29 : Bool) (x : Nat × Nat × Int × Int × (List (List PC))) : St := ⟨mkS 62 [(1, I n19), (2, .w (.one (.ptr 0 0 0))), (7, .w (.one (.ref 1 x.1 x.2.1))), (8, I n22), (9, I x.2.2.1), (10, I x.2.2.2.1)], [.box [.p (pS s25), .p (pI n26), .p (pI n27), .p (.sl 5 es28 full29)], .vec 3 x.2.2.2.2 true]⟩
set_option maxRecDepth 100000 in
theorem f26_p24e0 (n_63 : Int) (i_64 : Nat) (n_65 : Nat) (n_66 : Int) (n_67 : Int) (n_68 : Int) (s_69 : ByteArray) (n_70 : Int) (n_71 : Int) (es_72 : List (List PC)) (full_73 : Bool) (es_74 : List (List PC)) (N : St → Prop) (K : TExit → St → Prop) : (f26_p24b0 n_63 i_64 n_65 n_66 n_67 n_68 s_69 n_70 n_71 es_72 full_73 es_74 (fun z1 z2 z4 z5 z11 => N (f26_p24_mk n_63 n_66 s_69 n_70 n_71 es_72 full_73 (z1, z2, z4, z5, z11))) (fun i0_75 n0_76 es0_77 => K (.exit 2) ⟨mkS 62 [(1, I n_63), (2, .w (.one (.ptr 0 0 0))), (7, .w (.one (.ref 1 i0_75 n0_76))), (8, I n_66)], [.box [.p (pS s_69), .p (pI n_70), .p (pI n_71), .p (.sl 5 es_72 full_73)], .vec 3 es0_77 true]⟩)) = execT f26_C (nthC (bodies (bodyOf Tryd.f26)) 1) (f26_p24_mk n_63 n_66 s_69 n_70 n_71 es_72 full_73 (i_64, n_65, n_67, n_68, es_74)) (loopK N (normK f26_C 24) fun e s => K e (normOut f26_C 24 e s)) := by kernel_rfl
noncomputable def f26_p16_mk (n9 : Int) (s13 : ByteArray) (n14 : Int) (n15 : Int) (es16 : List (List PC)) (full17 : Bool) (x : Nat × Nat × Int × (List (List PC))) : St := ⟨mkS 62 [(1, I n9), (2, .w (.one (.ptr 0 0 0))), (7, .w (.one (.ref 1 x.1 x.2.1))), (8, I x.2.2.1)], [.box [.p (pS s13), .p (pI n14), .p (pI n15), .p (.sl 5 es16 full17)], .vec 3 x.2.2.2 true]⟩
set_option maxRecDepth 100000 in
theorem f26_p16e0 (n_88 : Int) (i_89 : Nat) (n_90 : Nat) (n_91 : Int) (s_92 : ByteArray) (n_93 : Int) (n_94 : Int) (es_95 : List (List PC)) (full_96 : Bool) (es_97 : List (List PC)) (N : St → Prop) (K : TExit → St → Prop) : (f26_p16b0 n_88 i_89 n_90 n_91 s_92 n_93 n_94 es_95 full_96 es_97 (fun z1 z2 z3 z9 => N (f26_p16_mk n_88 s_92 n_93 n_94 es_95 full_96 (z1, z2, z3, z9))) (fun i0_98 n0_99 es0_100 => K (.exit 0) ⟨mkS 62 [(7, .w (.one (.ref 0 i0_98 n0_99)))], [.vec 3 es0_100 true]⟩)) = execT f26_C (nthC (bodies (bodyOf Tryd.f26)) 0) (f26_p16_mk n_88 s_92 n_93 n_94 es_95 full_96 (i_89, n_90, n_91, es_97)) (loopK N (normK f26_C 16) fun e s => K e (normOut f26_C 16 e s)) := by kernel_rfl
set_option maxHeartbeats 4000000 in
theorem f26_p35_ok : TailOk f26_C (nthC (tails (bodyOf Tryd.f26)) 20) := by
  refine TailOk.of f26_p35L (by kernel_rfl) fun σ K h => ?_
  have hk : joinKey (nthC (tails (bodyOf Tryd.f26)) 20) = 35 := by kernel_rfl
  rw [hk] at h ⊢
  generalize hs : normK f26_C 35 σ = s at h
  obtain ⟨tm, hp⟩ := s
  unfold f26_p35L at h
  dsimp only at h
  obtain ⟨xx, yy, rfl, rfl, h⟩ := getS_elim h
  have q : normK f26_C 35 σ = (⟨mkS 62 [(1, I xx.2.1), (2, .w (.one (.ptr 0 0 0))), (7, .w (.one (.ref 1 xx.2.2.2.2.1.1 xx.2.2.2.2.1.2))), (8, I xx.2.2.2.2.2.1), (9, I xx.2.2.2.2.2.2.1), (10, I xx.2.2.2.2.2.2.2.1), (11, B xx.2.2.2.2.2.2.2.2.1)], [.box [.p (pS yy.1.1), .p (pI yy.1.2.1), .p (pI yy.1.2.2.1), .p (.sl 5 yy.1.2.2.2.1.1 yy.1.2.2.2.1.2)], .vec 3 yy.2.1 true]⟩ : St) := hs.trans (by kernel_rfl)
  rw [← hs, q, ← f26_p35e0 xx.2.1 xx.2.2.2.2.1.1 xx.2.2.2.2.1.2 xx.2.2.2.2.2.1 xx.2.2.2.2.2.2.1 xx.2.2.2.2.2.2.2.1 xx.2.2.2.2.2.2.2.2.1 yy.1.1 yy.1.2.1 yy.1.2.2.1 yy.1.2.2.2.1.1 yy.1.2.2.2.1.2 yy.2.1 K]
  exact h
set_option maxHeartbeats 4000000 in
theorem f26_p31_ok : TailOk f26_C (nthC (tails (bodyOf Tryd.f26)) 19) := by
  refine TailOk.of f26_p31L (by kernel_rfl) fun σ K h => ?_
  have hk : joinKey (nthC (tails (bodyOf Tryd.f26)) 19) = 31 := by kernel_rfl
  rw [hk] at h ⊢
  generalize hs : normK f26_C 31 σ = s at h
  obtain ⟨tm, hp⟩ := s
  unfold f26_p31L at h
  dsimp only at h
  obtain ⟨xx, yy, rfl, rfl, h⟩ := getS_elim h
  have q : normK f26_C 31 σ = (⟨mkS 62 [(1, I xx.2.1), (2, .w (.one (.ptr 0 0 0))), (7, .w (.one (.ref 1 xx.2.2.2.2.1.1 xx.2.2.2.2.1.2))), (8, I xx.2.2.2.2.2.1), (9, I xx.2.2.2.2.2.2.1), (10, I xx.2.2.2.2.2.2.2.1), (11, B xx.2.2.2.2.2.2.2.2.1)], [.box [.p (pS yy.1.1), .p (pI yy.1.2.1), .p (pI yy.1.2.2.1), .p (.sl 5 yy.1.2.2.2.1.1 yy.1.2.2.2.1.2)], .vec 3 yy.2.1 true]⟩ : St) := hs.trans (by kernel_rfl)
  rw [← hs, q, ← f26_p31e0 xx.2.1 xx.2.2.2.2.1.1 xx.2.2.2.2.1.2 xx.2.2.2.2.2.1 xx.2.2.2.2.2.2.1 xx.2.2.2.2.2.2.2.1 xx.2.2.2.2.2.2.2.2.1 yy.1.1 yy.1.2.1 yy.1.2.2.1 yy.1.2.2.2.1.1 yy.1.2.2.2.1.2 yy.2.1 K]
  exact h
set_option maxHeartbeats 4000000 in
theorem f26_p24_ok : LoopOk f26_C (nthC (bodies (bodyOf Tryd.f26)) 1) := by
  refine LoopOk.of f26_p24L (by kernel_rfl) fun σ K h => ?_
  have hk : loopKey (nthC (bodies (bodyOf Tryd.f26)) 1) = 24 := by kernel_rfl
  rw [hk] at h ⊢
  generalize hs : normK f26_C 24 σ = s at h
  obtain ⟨tm, hp⟩ := s
  unfold f26_p24L at h
  dsimp only at h
  obtain ⟨xx, yy, rfl, rfl, h⟩ := getS_elim h
  refine iter_of (f26_p24_mk xx.2.1 xx.2.2.2.2.2.1 yy.1.1 yy.1.2.1 yy.1.2.2.1 yy.1.2.2.2.1.1 yy.1.2.2.2.1.2) (fun x N h => ?_) rounds _ σ (hs.trans (by kernel_rfl)) (LoopP.run h)
  obtain ⟨y0, y1, y2, y3, y4⟩ := x
  rw [← f26_p24e0 xx.2.1 y0 y1 xx.2.2.2.2.2.1 y2 y3 yy.1.1 yy.1.2.1 yy.1.2.2.1 yy.1.2.2.2.1.1 yy.1.2.2.2.1.2 y4 N K]
  exact h
set_option maxHeartbeats 4000000 in
theorem f26_p16_ok : LoopOk f26_C (nthC (bodies (bodyOf Tryd.f26)) 0) := by
  refine LoopOk.of f26_p16L (by kernel_rfl) fun σ K h => ?_
  have hk : loopKey (nthC (bodies (bodyOf Tryd.f26)) 0) = 16 := by kernel_rfl
  rw [hk] at h ⊢
  generalize hs : normK f26_C 16 σ = s at h
  obtain ⟨tm, hp⟩ := s
  unfold f26_p16L at h
  dsimp only at h
  obtain ⟨xx, yy, rfl, rfl, h⟩ := getS_elim h
  refine iter_of (f26_p16_mk xx.2.1 yy.1.1 yy.1.2.1 yy.1.2.2.1 yy.1.2.2.2.1.1 yy.1.2.2.2.1.2) (fun x N h => ?_) rounds _ σ (hs.trans (by kernel_rfl)) (LoopP.run h)
  obtain ⟨y0, y1, y2, y3⟩ := x
  rw [← f26_p16e0 xx.2.1 y0 y1 y2 yy.1.1 yy.1.2.1 yy.1.2.2.1 yy.1.2.2.2.1.1 yy.1.2.2.2.1.2 y3 N K]
  exact h
noncomputable def f26_G0 : List TV → List Entry → (TV → List Entry → Prop) → Prop := fun tm hp K => getS [.v (.pagg [.str, .int .i64, .int .i64, .sl 5]), .v (.one (.int .i64))] [] tm hp fun (xx : ((ByteArray × (Int × (Int × ((List (List PC) × Bool) × Unit)))) × (Int × Unit))) (yy : Unit) => f26 xx.1.1 xx.1.2.1 xx.1.2.2.1 xx.1.2.2.2.1.1 xx.1.2.2.2.1.2 xx.2.1 (fun es0_14 full0_15 n0_16 => K (.tup [.one (.p (.sl 3 es0_14 full0_15)), .one (.p (pI n0_16))]) [])
set_option maxRecDepth 100000 in
theorem f26_eq (s_101 : ByteArray) (n_102 : Int) (n_103 : Int) (es_104 : List (List PC)) (full_105 : Bool) (n_106 : Int) (K : TV → List Entry → Prop) : (f26_d s_101 n_102 n_103 es_104 full_105 n_106 (fun es0_14 full0_15 n0_16 => K (.tup [.one (.p (.sl 3 es0_14 full0_15)), .one (.p (pI n0_16))]) [])) = funcT f26_C Tryd.f26 [.w (.pagg [pS s_101, pI n_102, pI n_103, .sl 5 es_104 full_105]), I n_106] [] K := by kernel_rfl
set_option maxHeartbeats 4000000 in
theorem f26_ok0 : FnOk Tryd.prog glob 26 f26_G0 := by
  refine FnOk.of_text (C := f26_C) tab_ok.ok (Known.add f60_G_ok (Known.add f56_G_ok (Known.add f53_G_ok (Known.add f17_G_ok (Known.none))))) follows_ok (fn := Tryd.f26) (by kernel_rfl) (by kernel_rfl) (by kernel_rfl) (fun c hc => ?_) fun tm hp K h => ?_
  · have e : c = bodyOf Tryd.f26 := Option.some.inj (hc.symm.trans (by kernel_rfl))
    subst e
    exact ⟨LoopsOk.of [nthC (bodies (bodyOf Tryd.f26)) 0, nthC (bodies (bodyOf Tryd.f26)) 1] (by kernel_rfl) ⟨f26_p16_ok, f26_p24_ok, trivial⟩, TailsOk.of (tab := f26_tab) rfl [nthC (tails (bodyOf Tryd.f26)) 19, nthC (tails (bodyOf Tryd.f26)) 20] (by kernel_rfl) ⟨f26_p31_ok, f26_p35_ok, trivial⟩⟩
  · unfold f26_G0 at h
    obtain ⟨xx, yy, rfl, rfl, h⟩ := getS_elim h
    have e := (f26_eq xx.1.1 xx.1.2.1 xx.1.2.2.1 xx.1.2.2.2.1.1 xx.1.2.2.2.1.2 xx.2.1 K).trans (show _ = funcT f26_C Tryd.f26 (mkR _ xx) (mkE _ yy) K by kernel_rfl)
    rw [← e]
    exact h.run
noncomputable abbrev f26_G := f26_G0
theorem f26_G_ok : FnOk Tryd.prog glob 26 f26_G := f26_ok0
end Go.Eng.N
set_option linter.unusedVariables false
set_option maxRecDepth 100000
open Go Go.Eng Go.Proofs
namespace Go.Eng.N
/-! ### f63: plenum/notify.Without$1 -/
noncomputable def f63_d (s1 : ByteArray) (n2 : Int) (n3 : Int) (n4 : Int) (n5 : Int) (s6 : ByteArray) (k0 : Bool → ByteArray → Prop) : Prop := k0 (s1.toList == s6.toList) s6
structure f63 (s1 : ByteArray) (n2 : Int) (n3 : Int) (n4 : Int) (n5 : Int) (s6 : ByteArray) (k0 : Bool → ByteArray → Prop) : Prop where
  run : f63_d s1 n2 n3 n4 n5 s6 k0
noncomputable def f63_tab : List (Nat × Told) := []
noncomputable def f63_call : FuncId → List TV → List Entry → (TV → List Entry → Prop) → Prop := noCalls
noncomputable def f63_C : Ctx := { ty := tyOf tab, glob := glob, byRef := byRef, keep := fun k i => lookN [] (lookN [] ([] : List (Nat × List (Nat × List Nat))) k) i, late := lookN [] ([] : List (Nat × List Nat)), nref := lookN [] ([] : List (Nat × List Nat)), nbox := lookN [] ([] : List (Nat × List (Nat × Nat))), take := [], rnil := false, m := 1, fz := true, loops := lookL f63_tab, call := f63_call }
noncomputable def f63_G0 : List TV → List Entry → (TV → List Entry → Prop) → Prop := fun tm hp K => getS [.v (.pagg [.str, .int .i64, .int .i64, .int .i64, .int .i64]), .v (.one (.ptr 0 0 0))] [.box [.str]] tm hp fun (xx : ((ByteArray × (Int × (Int × (Int × (Int × Unit))))) × (Unit × Unit))) (yy : ((ByteArray × Unit) × Unit)) => f63 xx.1.1 xx.1.2.1 xx.1.2.2.1 xx.1.2.2.2.1 xx.1.2.2.2.2.1 yy.1.1 (fun b0_0 s0_1 => K (B b0_0) [.box [.p (pS s0_1)]])
set_option maxRecDepth 100000 in
theorem f63_eq (s_2 : ByteArray) (n_3 : Int) (n_4 : Int) (n_5 : Int) (n_6 : Int) (s_7 : ByteArray) (K : TV → List Entry → Prop) : (f63_d s_2 n_3 n_4 n_5 n_6 s_7 (fun b0_0 s0_1 => K (B b0_0) [.box [.p (pS s0_1)]])) = funcT f63_C Tryd.f63 [.w (.pagg [pS s_2, pI n_3, pI n_4, pI n_5, pI n_6]), .w (.one (.ptr 0 0 0))] [.box [.p (pS s_7)]] K := by kernel_rfl
set_option maxHeartbeats 4000000 in
theorem f63_ok0 : FnOk Tryd.prog glob 63 f63_G0 := by
  refine FnOk.of_text (C := f63_C) tab_ok.ok (Known.none) follows_ok (fn := Tryd.f63) (by kernel_rfl) (by kernel_rfl) (by kernel_rfl) (fun c hc => ?_) fun tm hp K h => ?_
  · have e : c = bodyOf Tryd.f63 := Option.some.inj (hc.symm.trans (by kernel_rfl))
    subst e
    exact ⟨LoopsOk.of [] (by kernel_rfl) trivial, TailsOk.of (tab := f63_tab) rfl [] (by kernel_rfl) trivial⟩
  · unfold f63_G0 at h
    obtain ⟨xx, yy, rfl, rfl, h⟩ := getS_elim h
    have e := (f63_eq xx.1.1 xx.1.2.1 xx.1.2.2.1 xx.1.2.2.2.1 xx.1.2.2.2.2.1 yy.1.1 K).trans (show _ = funcT f63_C Tryd.f63 (mkR _ xx) (mkE _ yy) K by kernel_rfl)
    rw [← e]
    exact h.run
noncomputable abbrev f63_G := f63_G0
theorem f63_G_ok : FnOk Tryd.prog glob 63 f63_G := f63_ok0
end Go.Eng.N
set_option linter.unusedVariables false
set_option maxRecDepth 100000
open Go Go.Eng Go.Proofs
namespace Go.Eng.N
/-! ### f88_2: slices.IndexFunc(()plenum/api.Recipient,plenum/api.Recipient) -/
noncomputable def f88_2_p4b0 (i5 : Nat) (n6 : Nat) (n7 : Int) (n8 : Int) (es9 : List (List PC)) (s10 : ByteArray) (N0 : Int → ByteArray → Prop) (k0 : Int → ByteArray → Prop) (k1 : ByteArray → Prop) : Prop := bB (decide (n8 < n7)) ((0 ≤ n8 ∧ n8 < ((n6 : Nat) : Int)) ∧ cS (ext (List.getD es9 (i5 + (Int.toNat n8)) []) 0 5) fun s12 r11 => cI .i64 r11 fun n14 r13 => cI .i64 r13 fun n16 r15 => cI .i64 r15 fun n18 r17 => cI .i64 r17 fun n20 r19 => nilC r19 <| f63 s12 n14 n16 n18 n20 s10 (fun b21 s22 => bB b21 (k0 n8 s22) (N0 (w64 (n8 + 1)) s22))) (k1 s10)
noncomputable def f88_2_p4 (i5 : Nat) (n6 : Nat) (n7 : Int) (es9 : List (List PC)) (k0 : Int → ByteArray → Prop) (k1 : ByteArray → Prop) : Int × ByteArray → Prop := LoopP fun x N => f88_2_p4b0 i5 n6 n7 x.1 es9 x.2 (fun n8 s10 => N (n8, s10)) k0 k1
noncomputable def f88_2_d (i1 : Nat) (n2 : Nat) (es3 : List (List PC)) (s4 : ByteArray) (k0 : Int → (List (List PC)) → ByteArray → Prop) : Prop := f88_2_p4 i1 n2 ((n2 : Nat) : Int) es3 (fun n23 s24 => k0 n23 es3 s24) (fun s25 => k0 (-1) es3 s25) (0, s4)
structure f88_2 (i1 : Nat) (n2 : Nat) (es3 : List (List PC)) (s4 : ByteArray) (k0 : Int → (List (List PC)) → ByteArray → Prop) : Prop where
  run : f88_2_d i1 n2 es3 s4 k0
noncomputable def f88_2_p4L : Told := fun s K => match s with
  | ⟨tm, hp⟩ => getS [.v (.one (.ref 0)), .v (.clo 63 [] [.ptr 1 0 0]), .skip 5, .v (.one (.int .i64)), .v (.one (.int .i64)), .skip 10] [.vec 5 true, .box [.str]] tm hp fun (xx : ((Nat × Nat) × ((Unit × (Unit × Unit)) × (Unit × (Int × (Int × (Unit × Unit))))))) (yy : ((List (List PC)) × ((ByteArray × Unit) × Unit))) => f88_2_p4 xx.1.1 xx.1.2 xx.2.2.2.1 yy.1 (fun n0_0 s0_1 => K .ret ⟨mkS 19 [(4, I n0_0)], [.vec 5 yy.1 true, .box [.p (pS s0_1)]]⟩) (fun s1_2 => K (.exit 0) ⟨mkS 19 [], [.vec 5 yy.1 true, .box [.p (pS s1_2)]]⟩) (xx.2.2.2.2.1, yy.2.1.1)
noncomputable def f88_2_tab : List (Nat × Told) := [(4, f88_2_p4L)]
noncomputable def f88_2_call : FuncId → List TV → List Entry → (TV → List Entry → Prop) → Prop := addCall 63 f63_G (noCalls)
noncomputable def f88_2_C : Ctx := { ty := tyOf tab, glob := glob, byRef := byRef, keep := fun k i => lookN [] (lookN [] ([(4, [(0, [0, 1, 7, 8]), (2, [4]), (3, [])])] : List (Nat × List (Nat × List Nat))) k) i, late := lookN [] ([] : List (Nat × List Nat)), nref := lookN [] ([] : List (Nat × List Nat)), nbox := lookN [] ([] : List (Nat × List (Nat × Nat))), take := [], rnil := true, m := 2, fz := false, loops := lookL f88_2_tab, call := f88_2_call }
noncomputable def f88_2_p4_mk (i5 : Nat) (n6 : Nat) (n7 : Int) (es9 : List (List PC)) (x : Int × ByteArray) : St := ⟨mkS 19 [(0, .w (.one (.ref 0 i5 n6))), (1, .w (.one (.clo 63 [] [.ptr 1 0 0]))), (7, I n7), (8, I x.1)], [.vec 5 es9 true, .box [.p (pS x.2)]]⟩
set_option maxRecDepth 100000 in
theorem f88_2_p4e0 (i_12 : Nat) (n_13 : Nat) (n_14 : Int) (n_15 : Int) (es_16 : List (List PC)) (s_17 : ByteArray) (N : St → Prop) (K : TExit → St → Prop) : (f88_2_p4b0 i_12 n_13 n_14 n_15 es_16 s_17 (fun z3 z5 => N (f88_2_p4_mk i_12 n_13 n_14 es_16 (z3, z5))) (fun n0_18 s0_19 => K .ret ⟨mkS 19 [(4, I n0_18)], [.vec 5 es_16 true, .box [.p (pS s0_19)]]⟩) (fun s1_20 => K (.exit 0) ⟨mkS 19 [], [.vec 5 es_16 true, .box [.p (pS s1_20)]]⟩)) = execT f88_2_C (nthC (bodies (bodyOf Tryd.f88)) 0) (f88_2_p4_mk i_12 n_13 n_14 es_16 (n_15, s_17)) (loopK N (normK f88_2_C 4) fun e s => K e (normOut f88_2_C 4 e s)) := by kernel_rfl
set_option maxHeartbeats 4000000 in
theorem f88_2_p4_ok : LoopOk f88_2_C (nthC (bodies (bodyOf Tryd.f88)) 0) := by
  refine LoopOk.of f88_2_p4L (by kernel_rfl) fun σ K h => ?_
  have hk : loopKey (nthC (bodies (bodyOf Tryd.f88)) 0) = 4 := by kernel_rfl
  rw [hk] at h ⊢
  generalize hs : normK f88_2_C 4 σ = s at h
  obtain ⟨tm, hp⟩ := s
  unfold f88_2_p4L at h
  dsimp only at h
  obtain ⟨xx, yy, rfl, rfl, h⟩ := getS_elim h
  refine iter_of (f88_2_p4_mk xx.1.1 xx.1.2 xx.2.2.2.1 yy.1) (fun x N h => ?_) rounds _ σ (hs.trans (by kernel_rfl)) (LoopP.run h)
  obtain ⟨y0, y1⟩ := x
  rw [← f88_2_p4e0 xx.1.1 xx.1.2 xx.2.2.2.1 y0 yy.1 y1 N K]
  exact h
noncomputable def f88_2_G0 : List TV → List Entry → (TV → List Entry → Prop) → Prop := fun tm hp K => getS [.v (.one (.ref 0)), .v (.clo 63 [] [.ptr 1 0 0])] [.vec 5 true, .box [.str]] tm hp fun (xx : ((Nat × Nat) × ((Unit × (Unit × Unit)) × Unit))) (yy : ((List (List PC)) × ((ByteArray × Unit) × Unit))) => f88_2 xx.1.1 xx.1.2 yy.1 yy.2.1.1 (fun n0_3 es0_4 s0_5 => K (I n0_3) [.vec 5 es0_4 true, .box [.p (pS s0_5)]])
set_option maxRecDepth 100000 in
theorem f88_2_eq (i_21 : Nat) (n_22 : Nat) (es_23 : List (List PC)) (s_24 : ByteArray) (K : TV → List Entry → Prop) : (f88_2_d i_21 n_22 es_23 s_24 (fun n0_3 es0_4 s0_5 => K (I n0_3) [.vec 5 es0_4 true, .box [.p (pS s0_5)]])) = funcT f88_2_C Tryd.f88 [.w (.one (.ref 0 i_21 n_22)), .w (.one (.clo 63 [] [.ptr 1 0 0]))] [.vec 5 es_23 true, .box [.p (pS s_24)]] K := by kernel_rfl
set_option maxHeartbeats 4000000 in
theorem f88_2_ok0 : FnOk Tryd.prog glob 88 f88_2_G0 := by
  refine FnOk.of_text (C := f88_2_C) tab_ok.ok (Known.add f63_G_ok (Known.none)) follows_ok (fn := Tryd.f88) (by kernel_rfl) (by kernel_rfl) (by kernel_rfl) (fun c hc => ?_) fun tm hp K h => ?_
  · have e : c = bodyOf Tryd.f88 := Option.some.inj (hc.symm.trans (by kernel_rfl))
    subst e
    exact ⟨LoopsOk.of [nthC (bodies (bodyOf Tryd.f88)) 0] (by kernel_rfl) ⟨f88_2_p4_ok, trivial⟩, TailsOk.of (tab := f88_2_tab) rfl [] (by kernel_rfl) trivial⟩
  · unfold f88_2_G0 at h
    obtain ⟨xx, yy, rfl, rfl, h⟩ := getS_elim h
    have e := (f88_2_eq xx.1.1 xx.1.2 yy.1 yy.2.1.1 K).trans (show _ = funcT f88_2_C Tryd.f88 (mkR _ xx) (mkE _ yy) K by kernel_rfl)
    rw [← e]
    exact h.run
noncomputable def f88_2_G : List TV → List Entry → (TV → List Entry → Prop) → Prop := fun args H K => bif isSig (sigOf args H) [100, 100063, 7, 22, 20, 4] then f88_2_G0 args H K else f88_1_G args H K
theorem f88_2_G_ok : FnOk Tryd.prog glob 88 f88_2_G := FnOk.or _ f88_2_ok0 f88_1_G_ok
end Go.Eng.N
set_option linter.unusedVariables false
set_option maxRecDepth 100000
open Go Go.Eng Go.Proofs
namespace Go.Eng.N
/-! ### f61: slices.DeleteFunc(()plenum/api.Recipient,plenum/api.Recipient) -/
noncomputable def f61_p10b0 (i8 : Nat) (n9 : Nat) (n10 : Int) (n11 : Int) (es12 : List (List PC)) (s13 : ByteArray) (N0 : Int → Int → (List (List PC)) → ByteArray → Prop) (k0 : Int → (List (List PC)) → ByteArray → Prop) : Prop := bB (decide (n11 < ((n9 : Nat) : Int))) ((0 ≤ n11 ∧ n11 < ((n9 : Nat) : Int)) ∧ cS (ext (List.getD es12 (i8 + (Int.toNat n11)) []) 0 5) fun s15 r14 => cI .i64 r14 fun n17 r16 => cI .i64 r16 fun n19 r18 => cI .i64 r18 fun n21 r20 => cI .i64 r20 fun n23 r22 => nilC r22 <| f63 s15 n17 n19 n21 n23 s13 (fun b24 s25 => bB (!b24) ((0 ≤ n10 ∧ n10 < ((n9 : Nat) : Int)) ∧ (i8 + (Int.toNat n10)) < es12.length ∧ N0 (w64 (n10 + 1)) (w64 (n11 + 1)) (List.set es12 (i8 + (Int.toNat n10)) (splice (List.getD es12 (i8 + (Int.toNat n10)) []) 0 [pS s15, pI n17, pI n19, pI n21, pI n23])) s25) (N0 n10 (w64 (n11 + 1)) es12 s25))) (k0 n10 es12 s13)
noncomputable def f61_p10 (i8 : Nat) (n9 : Nat) (k0 : Int → (List (List PC)) → ByteArray → Prop) : Int × Int × (List (List PC)) × ByteArray → Prop := LoopP fun x N => f61_p10b0 i8 n9 x.1 x.2.1 x.2.2.1 x.2.2.2 (fun n10 n11 es12 s13 => N (n10, n11, es12, s13)) k0
noncomputable def f61_d (i1 : Nat) (n2 : Nat) (es3 : List (List PC)) (s4 : ByteArray) (k0 : Nat → Nat → (List (List PC)) → ByteArray → Prop) : Prop := f88_2 i1 n2 es3 s4 (fun n5 es6 s7 => bB (n5 == (-1)) (k0 i1 n2 es6 s7) (f61_p10 i1 n2 (fun n26 es27 s28 => (0 ≤ n26 ∧ n26 ≤ ((n2 : Nat) : Int) ∧ ((n2 : Nat) : Int) ≤ ((n2 : Nat) : Int)) ∧ ((i1 + (Int.toNat n26)) + ((Int.toNat ((n2 : Nat) : Int)) - (Int.toNat n26))) ≤ es27.length ∧ (0 ≤ (0 : Int) ∧ (0 : Int) ≤ n26 ∧ n26 ≤ ((n2 : Nat) : Int)) ∧ k0 (i1 + 0) ((Int.toNat n26) - 0) (splice es27 (i1 + (Int.toNat n26)) (List.replicate ((Int.toNat ((n2 : Nat) : Int)) - (Int.toNat n26)) [pS (⟨#[]⟩ : ByteArray), pI 0, pI 0, pI 0, pI 0])) s28) (n5, (w64 (n5 + 1)), es6, s7)))
structure f61 (i1 : Nat) (n2 : Nat) (es3 : List (List PC)) (s4 : ByteArray) (k0 : Nat → Nat → (List (List PC)) → ByteArray → Prop) : Prop where
  run : f61_d i1 n2 es3 s4 k0
noncomputable def f61_p10L : Told := fun s K => match s with
  | ⟨tm, hp⟩ => getS [.v (.one (.ref 0)), .v (.clo 63 [] [.ptr 1 0 0]), .skip 3, .v (.one (.int .i64)), .v (.one (.int .i64)), .skip 35] [.vec 5 true, .box [.str]] tm hp fun (xx : ((Nat × Nat) × ((Unit × (Unit × Unit)) × (Unit × (Int × (Int × (Unit × Unit))))))) (yy : ((List (List PC)) × ((ByteArray × Unit) × Unit))) => f61_p10 xx.1.1 xx.1.2 (fun n0_0 es0_1 s0_2 => K (.exit 0) ⟨mkS 42 [(0, .w (.one (.ref 0 xx.1.1 xx.1.2))), (5, I n0_0)], [.vec 5 es0_1 true, .box [.p (pS s0_2)]]⟩) (xx.2.2.2.1, xx.2.2.2.2.1, yy.1, yy.2.1.1)
noncomputable def f61_tab : List (Nat × Told) := [(10, f61_p10L)]
noncomputable def f61_call : FuncId → List TV → List Entry → (TV → List Entry → Prop) → Prop := addCall 88 f88_2_G (addCall 63 f63_G (noCalls))
noncomputable def f61_C : Ctx := { ty := tyOf tab, glob := glob, byRef := byRef, keep := fun k i => lookN [] (lookN [] ([(10, [(0, [0, 1, 5, 6]), (2, [4]), (3, [0, 5])])] : List (Nat × List (Nat × List Nat))) k) i, late := lookN [] ([] : List (Nat × List Nat)), nref := lookN [] ([] : List (Nat × List Nat)), nbox := lookN [] ([] : List (Nat × List (Nat × Nat))), take := [], rnil := true, m := 2, fz := false, loops := lookL f61_tab, call := f61_call }
noncomputable def f61_p10_mk (i8 : Nat) (n9 : Nat) (x : Int × Int × (List (List PC)) × ByteArray) : St := ⟨mkS 42 [(0, .w (.one (.ref 0 i8 n9))), (1, .w (.one (.clo 63 [] [.ptr 1 0 0]))), (5, I x.1), (6, I x.2.1)], [.vec 5 x.2.2.1 true, .box [.p (pS x.2.2.2)]]⟩
set_option maxRecDepth 100000 in
theorem f61_p10e0 (i_13 : Nat) (n_14 : Nat) (n_15 : Int) (n_16 : Int) (es_17 : List (List PC)) (s_18 : ByteArray) (N : St → Prop) (K : TExit → St → Prop) : (f61_p10b0 i_13 n_14 n_15 n_16 es_17 s_18 (fun z2 z3 z4 z5 => N (f61_p10_mk i_13 n_14 (z2, z3, z4, z5))) (fun n0_19 es0_20 s0_21 => K (.exit 0) ⟨mkS 42 [(0, .w (.one (.ref 0 i_13 n_14))), (5, I n0_19)], [.vec 5 es0_20 true, .box [.p (pS s0_21)]]⟩)) = execT f61_C (nthC (bodies (bodyOf Tryd.f61)) 0) (f61_p10_mk i_13 n_14 (n_15, n_16, es_17, s_18)) (loopK N (normK f61_C 10) fun e s => K e (normOut f61_C 10 e s)) := by kernel_rfl
set_option maxHeartbeats 4000000 in
theorem f61_p10_ok : LoopOk f61_C (nthC (bodies (bodyOf Tryd.f61)) 0) := by
  refine LoopOk.of f61_p10L (by kernel_rfl) fun σ K h => ?_
  have hk : loopKey (nthC (bodies (bodyOf Tryd.f61)) 0) = 10 := by kernel_rfl
  rw [hk] at h ⊢
  generalize hs : normK f61_C 10 σ = s at h
  obtain ⟨tm, hp⟩ := s
  unfold f61_p10L at h
  dsimp only at h
  obtain ⟨xx, yy, rfl, rfl, h⟩ := getS_elim h
  refine iter_of (f61_p10_mk xx.1.1 xx.1.2) (fun x N h => ?_) rounds _ σ (hs.trans (by kernel_rfl)) (LoopP.run h)
  obtain ⟨y0, y1, y2, y3⟩ := x
  rw [← f61_p10e0 xx.1.1 xx.1.2 y0 y1 y2 y3 N K]
  exact h
noncomputable def f61_G0 : List TV → List Entry → (TV → List Entry → Prop) → Prop := fun tm hp K => getS [.v (.one (.ref 0)), .v (.clo 63 [] [.ptr 1 0 0])] [.vec 5 true, .box [.str]] tm hp fun (xx : ((Nat × Nat) × ((Unit × (Unit × Unit)) × Unit))) (yy : ((List (List PC)) × ((ByteArray × Unit) × Unit))) => f61 xx.1.1 xx.1.2 yy.1 yy.2.1.1 (fun i0_3 n0_4 es0_5 s0_6 => K (.w (.one (.ref 0 i0_3 n0_4))) [.vec 5 es0_5 true, .box [.p (pS s0_6)]])
set_option maxRecDepth 100000 in
theorem f61_eq (i_22 : Nat) (n_23 : Nat) (es_24 : List (List PC)) (s_25 : ByteArray) (K : TV → List Entry → Prop) : (f61_d i_22 n_23 es_24 s_25 (fun i0_3 n0_4 es0_5 s0_6 => K (.w (.one (.ref 0 i0_3 n0_4))) [.vec 5 es0_5 true, .box [.p (pS s0_6)]])) = funcT f61_C Tryd.f61 [.w (.one (.ref 0 i_22 n_23)), .w (.one (.clo 63 [] [.ptr 1 0 0]))] [.vec 5 es_24 true, .box [.p (pS s_25)]] K := by kernel_rfl
set_option maxHeartbeats 4000000 in
theorem f61_ok0 : FnOk Tryd.prog glob 61 f61_G0 := by
  refine FnOk.of_text (C := f61_C) tab_ok.ok (Known.add f88_2_G_ok (Known.add f63_G_ok (Known.none))) follows_ok (fn := Tryd.f61) (by kernel_rfl) (by kernel_rfl) (by kernel_rfl) (fun c hc => ?_) fun tm hp K h => ?_
  · have e : c = bodyOf Tryd.f61 := Option.some.inj (hc.symm.trans (by kernel_rfl))
    subst e
    exact ⟨LoopsOk.of [nthC (bodies (bodyOf Tryd.f61)) 0] (by kernel_rfl) ⟨f61_p10_ok, trivial⟩, TailsOk.of (tab := f61_tab) rfl [] (by kernel_rfl) trivial⟩
  · unfold f61_G0 at h
    obtain ⟨xx, yy, rfl, rfl, h⟩ := getS_elim h
    have e := (f61_eq xx.1.1 xx.1.2 yy.1 yy.2.1.1 K).trans (show _ = funcT f61_C Tryd.f61 (mkR _ xx) (mkE _ yy) K by kernel_rfl)
    rw [← e]
    exact h.run
noncomputable abbrev f61_G := f61_G0
theorem f61_G_ok : FnOk Tryd.prog glob 61 f61_G := f61_ok0
end Go.Eng.N
set_option linter.unusedVariables false
set_option maxRecDepth 100000
open Go Go.Eng Go.Proofs
namespace Go.Eng.N
/-! ### f62: slices.Clone(()plenum/api.Recipient,plenum/api.Recipient) -/
noncomputable def f62_d (es1 : List (List PC)) (full2 : Bool) (k0 : Nat → Nat → (List (List PC)) → Prop) : Prop := ((es1 = []) → k0 0 0 []) ∧ (0 = 0 ∧ (0 + es1.length) * 48 ≤ 2 ^ 46 ∧ (0 + es1.length) ≤ 2 ^ 46 ∧ k0 0 (0 + es1.length) (List.drop 0 [] ++ es1))
structure f62 (es1 : List (List PC)) (full2 : Bool) (k0 : Nat → Nat → (List (List PC)) → Prop) : Prop where
  run : f62_d es1 full2 k0
noncomputable def f62_tab : List (Nat × Told) := []
noncomputable def f62_call : FuncId → List TV → List Entry → (TV → List Entry → Prop) → Prop := noCalls
noncomputable def f62_C : Ctx := { ty := tyOf tab, glob := glob, byRef := byRef, keep := fun k i => lookN [] (lookN [] ([] : List (Nat × List (Nat × List Nat))) k) i, late := lookN [] ([] : List (Nat × List Nat)), nref := lookN [] ([] : List (Nat × List Nat)), nbox := lookN [] ([] : List (Nat × List (Nat × Nat))), take := [], rnil := true, m := 0, fz := false, loops := lookL f62_tab, call := f62_call }
noncomputable def f62_G0 : List TV → List Entry → (TV → List Entry → Prop) → Prop := fun tm hp K => getS [.v (.one (.sl 5))] [] tm hp fun (xx : ((List (List PC) × Bool) × Unit)) (yy : Unit) => f62 xx.1.1 xx.1.2 (fun i0_0 n0_1 es0_2 => K (.w (.one (.ref 0 i0_0 n0_1))) [.vec 5 es0_2 true])
set_option maxRecDepth 100000 in
theorem f62_eq (es_3 : List (List PC)) (full_4 : Bool) (K : TV → List Entry → Prop) : (f62_d es_3 full_4 (fun i0_0 n0_1 es0_2 => K (.w (.one (.ref 0 i0_0 n0_1))) [.vec 5 es0_2 true])) = funcT f62_C Tryd.f62 [.w (.one (.p (.sl 5 es_3 full_4)))] [] K := by kernel_rfl
set_option maxHeartbeats 4000000 in
theorem f62_ok0 : FnOk Tryd.prog glob 62 f62_G0 := by
  refine FnOk.of_text (C := f62_C) tab_ok.ok (Known.none) follows_ok (fn := Tryd.f62) (by kernel_rfl) (by kernel_rfl) (by kernel_rfl) (fun c hc => ?_) fun tm hp K h => ?_
  · have e : c = bodyOf Tryd.f62 := Option.some.inj (hc.symm.trans (by kernel_rfl))
    subst e
    exact ⟨LoopsOk.of [] (by kernel_rfl) trivial, TailsOk.of (tab := f62_tab) rfl [] (by kernel_rfl) trivial⟩
  · unfold f62_G0 at h
    obtain ⟨xx, yy, rfl, rfl, h⟩ := getS_elim h
    have e := (f62_eq xx.1.1 xx.1.2 K).trans (show _ = funcT f62_C Tryd.f62 (mkR _ xx) (mkE _ yy) K by kernel_rfl)
    rw [← e]
    exact h.run
noncomputable abbrev f62_G := f62_G0
theorem f62_G_ok : FnOk Tryd.prog glob 62 f62_G := f62_ok0
end Go.Eng.N
set_option linter.unusedVariables false
set_option maxRecDepth 100000
open Go Go.Eng Go.Proofs
namespace Go.Eng.N
/-! ### f27: plenum/notify.Without -/
noncomputable def f27_p18b0 (n15 : Int) (n16 : Int) (s17 : ByteArray) (n18 : Int) (n19 : Int) (es20 : List (List PC)) (full21 : Bool) (s22 : ByteArray) (n23 : Int) (n24 : Int) (s25 : ByteArray) (n26 : Int) (n27 : Int) (i28 : Nat) (n29 : Nat) (es30 : List (List PC)) (N0 : Int → (List (List PC)) → Prop) (k0 : Int → ByteArray → Int → Int → Prop) (k1 : (List (List PC)) → Prop) : Prop := bB (decide (n16 < n15)) (0 ≤ n16 ∧ 0 ≤ n16 ∧ f58 es20 full21 (IntKind.wrap .i64 (1 * 2 ^ (min (Int.toNat n16) 64))) (fun cs31 => f58_1 i28 n29 (IntKind.wrap .i64 (1 * 2 ^ (min (Int.toNat n16) 64))) es30 (fun cs32 es33 => ∃ b34, eqCells (List.replicate 10080 (.bool)) cs31 cs32 = some b34 ∧ bB (!b34) (k0 10 (⟨#[]⟩ : ByteArray) 0 0) (N0 (w64 (n16 + 1)) es33)))) (k1 es30)
noncomputable def f27_p18 (n15 : Int) (s17 : ByteArray) (n18 : Int) (n19 : Int) (es20 : List (List PC)) (full21 : Bool) (s22 : ByteArray) (n23 : Int) (n24 : Int) (s25 : ByteArray) (n26 : Int) (n27 : Int) (i28 : Nat) (n29 : Nat) (k0 : Int → ByteArray → Int → Int → Prop) (k1 : (List (List PC)) → Prop) : Int × (List (List PC)) → Prop := LoopP fun x N => f27_p18b0 n15 x.1 s17 n18 n19 es20 full21 s22 n23 n24 s25 n26 n27 i28 n29 x.2 (fun n16 es30 => N (n16, es30)) k0 k1
noncomputable def f27_d (s1 : ByteArray) (n2 : Int) (n3 : Int) (es4 : List (List PC)) (full5 : Bool) (s6 : ByteArray) (k0 : ByteArray → Int → Int → (List (List PC)) → Bool → Int → Prop) : Prop := f16 s1 n2 n3 es4 full5 (fun n7 => bB (n7 != 0) (k0 (⟨#[]⟩ : ByteArray) 0 0 [] true n7) (f62 es4 full5 (fun i8 n9 es10 => f61 i8 n9 es10 s6 (fun i11 n12 es13 s14 => bB (((n12 : Nat) : Int) == ((es4.length : Nat) : Int)) (k0 (⟨#[]⟩ : ByteArray) 0 0 [] true 3) (f27_p18 3 s1 n2 n3 es4 full5 (⟨#[]⟩ : ByteArray) 0 0 s1 n2 n3 i11 n12 (fun n35 s36 n37 n38 => k0 s36 n37 n38 [] true n35) (fun es39 => k0 s1 n2 n3 (List.take n12 (List.drop i11 es39)) false 0) (0, es13))))))
structure f27 (s1 : ByteArray) (n2 : Int) (n3 : Int) (es4 : List (List PC)) (full5 : Bool) (s6 : ByteArray) (k0 : ByteArray → Int → Int → (List (List PC)) → Bool → Int → Prop) : Prop where
  run : f27_d s1 n2 n3 es4 full5 s6 k0
noncomputable def f27_p18L : Told := fun s K => match s with
  | ⟨tm, hp⟩ => getS [.skip 2, .v (.one (.ptr 0 0 0)), .skip 1, .v (.one (.ptr 1 0 0)), .skip 2, .v (.one (.ptr 2 0 0)), .skip 23, .v (.one (.int .i64)), .v (.one (.int .i64)), .skip 16] [.box [.str, .int .i64, .int .i64, .sl 5], .box [.str, .int .i64, .int .i64, .nil 5], .box [.str, .int .i64, .int .i64, .ref 3], .vec 5 true] tm hp fun (xx : (Unit × (Unit × (Unit × (Unit × (Unit × (Unit × (Unit × (Int × (Int × (Unit × Unit))))))))))) (yy : ((ByteArray × (Int × (Int × ((List (List PC) × Bool) × Unit)))) × ((ByteArray × (Int × (Int × (Unit × Unit)))) × ((ByteArray × (Int × (Int × ((Nat × Nat) × Unit)))) × ((List (List PC)) × Unit))))) => f27_p18 xx.2.2.2.2.2.2.2.1 yy.1.1 yy.1.2.1 yy.1.2.2.1 yy.1.2.2.2.1.1 yy.1.2.2.2.1.2 yy.2.1.1 yy.2.1.2.1 yy.2.1.2.2.1 yy.2.2.1.1 yy.2.2.1.2.1 yy.2.2.1.2.2.1 yy.2.2.1.2.2.2.1.1 yy.2.2.1.2.2.2.1.2 (fun n0_0 s0_1 n0_2 n0_3 => K .ret ⟨mkS 49 [(4, .w (.one (.ptr 0 0 0))), (5, I n0_0)], [.box [.p (pS s0_1), .p (pI n0_2), .p (pI n0_3), .p (.sl 5 [] true)]]⟩) (fun es1_4 => K (.exit 0) ⟨mkS 49 [(4, .w (.one (.ptr 0 0 0))), (7, .w (.one (.ptr 1 0 0)))], [.box [.p (pS yy.2.1.1), .p (pI yy.2.1.2.1), .p (pI yy.2.1.2.2.1), .p (.sl 5 [] true)], .box [.p (pS yy.2.2.1.1), .p (pI yy.2.2.1.2.1), .p (pI yy.2.2.1.2.2.1), .ref 2 yy.2.2.1.2.2.2.1.1 yy.2.2.1.2.2.2.1.2], .vec 5 es1_4 true]⟩) (xx.2.2.2.2.2.2.2.2.1, yy.2.2.2.1)
noncomputable def f27_tab : List (Nat × Told) := [(18, f27_p18L)]
noncomputable def f27_call : FuncId → List TV → List Entry → (TV → List Entry → Prop) → Prop := addCall 62 f62_G (addCall 61 f61_G (addCall 58 f58_1_G (addCall 16 f16_G (noCalls))))
noncomputable def f27_C : Ctx := { ty := tyOf tab, glob := glob, byRef := byRef, keep := fun k i => lookN [] (lookN [] ([(18, [(0, [2, 4, 7, 31, 32]), (2, [4, 5]), (3, [4, 7])])] : List (Nat × List (Nat × List Nat))) k) i, late := lookN [] ([] : List (Nat × List Nat)), nref := lookN [] ([] : List (Nat × List Nat)), nbox := lookN [] ([] : List (Nat × List (Nat × Nat))), take := [], rnil := false, m := 0, fz := true, loops := lookL f27_tab, call := f27_call }
noncomputable def f27_p18_mk (n15 : Int) (s17 : ByteArray) (n18 : Int) (n19 : Int) (es20 : List (List PC)) (full21 : Bool) (s22 : ByteArray) (n23 : Int) (n24 : Int) (s25 : ByteArray) (n26 : Int) (n27 : Int) (i28 : Nat) (n29 : Nat) (x : Int × (List (List PC))) : St := ⟨mkS 49 [(2, .w (.one (.ptr 0 0 0))), (4, .w (.one (.ptr 1 0 0))), (7, .w (.one (.ptr 2 0 0))), (31, I n15), (32, I x.1)], [.box [.p (pS s17), .p (pI n18), .p (pI n19), .p (.sl 5 es20 full21)], .box [.p (pS s22), .p (pI n23), .p (pI n24), .p (.sl 5 [] true)], .box [.p (pS s25), .p (pI n26), .p (pI n27), .ref 3 i28 n29], .vec 5 x.2 true]⟩
set_option maxRecDepth 100000 in
theorem f27_p18e0 (n_27 : Int) (n_28 : Int) (s_29 : ByteArray) (n_30 : Int) (n_31 : Int) (es_32 : List (List PC)) (full_33 : Bool) (s_34 : ByteArray) (n_35 : Int) (n_36 : Int) (s_37 : ByteArray) (n_38 : Int) (n_39 : Int) (i_40 : Nat) (n_41 : Nat) (es_42 : List (List PC)) (N : St → Prop) (K : TExit → St → Prop) : (f27_p18b0 n_27 n_28 s_29 n_30 n_31 es_32 full_33 s_34 n_35 n_36 s_37 n_38 n_39 i_40 n_41 es_42 (fun z1 z15 => N (f27_p18_mk n_27 s_29 n_30 n_31 es_32 full_33 s_34 n_35 n_36 s_37 n_38 n_39 i_40 n_41 (z1, z15))) (fun n0_43 s0_44 n0_45 n0_46 => K .ret ⟨mkS 49 [(4, .w (.one (.ptr 0 0 0))), (5, I n0_43)], [.box [.p (pS s0_44), .p (pI n0_45), .p (pI n0_46), .p (.sl 5 [] true)]]⟩) (fun es1_47 => K (.exit 0) ⟨mkS 49 [(4, .w (.one (.ptr 0 0 0))), (7, .w (.one (.ptr 1 0 0)))], [.box [.p (pS s_34), .p (pI n_35), .p (pI n_36), .p (.sl 5 [] true)], .box [.p (pS s_37), .p (pI n_38), .p (pI n_39), .ref 2 i_40 n_41], .vec 5 es1_47 true]⟩)) = execT f27_C (nthC (bodies (bodyOf Tryd.f27)) 0) (f27_p18_mk n_27 s_29 n_30 n_31 es_32 full_33 s_34 n_35 n_36 s_37 n_38 n_39 i_40 n_41 (n_28, es_42)) (loopK N (normK f27_C 18) fun e s => K e (normOut f27_C 18 e s)) := by kernel_rfl
set_option maxHeartbeats 4000000 in
theorem f27_p18_ok : LoopOk f27_C (nthC (bodies (bodyOf Tryd.f27)) 0) := by
  refine LoopOk.of f27_p18L (by kernel_rfl) fun σ K h => ?_
  have hk : loopKey (nthC (bodies (bodyOf Tryd.f27)) 0) = 18 := by kernel_rfl
  rw [hk] at h ⊢
  generalize hs : normK f27_C 18 σ = s at h
  obtain ⟨tm, hp⟩ := s
  unfold f27_p18L at h
  dsimp only at h
  obtain ⟨xx, yy, rfl, rfl, h⟩ := getS_elim h
  refine iter_of (f27_p18_mk xx.2.2.2.2.2.2.2.1 yy.1.1 yy.1.2.1 yy.1.2.2.1 yy.1.2.2.2.1.1 yy.1.2.2.2.1.2 yy.2.1.1 yy.2.1.2.1 yy.2.1.2.2.1 yy.2.2.1.1 yy.2.2.1.2.1 yy.2.2.1.2.2.1 yy.2.2.1.2.2.2.1.1 yy.2.2.1.2.2.2.1.2) (fun x N h => ?_) rounds _ σ (hs.trans (by kernel_rfl)) (LoopP.run h)
  obtain ⟨y0, y1⟩ := x
  rw [← f27_p18e0 xx.2.2.2.2.2.2.2.1 y0 yy.1.1 yy.1.2.1 yy.1.2.2.1 yy.1.2.2.2.1.1 yy.1.2.2.2.1.2 yy.2.1.1 yy.2.1.2.1 yy.2.1.2.2.1 yy.2.2.1.1 yy.2.2.1.2.1 yy.2.2.1.2.2.1 yy.2.2.1.2.2.2.1.1 yy.2.2.1.2.2.2.1.2 y1 N K]
  exact h
noncomputable def f27_G0 : List TV → List Entry → (TV → List Entry → Prop) → Prop := fun tm hp K => getS [.v (.pagg [.str, .int .i64, .int .i64, .sl 5]), .v (.one (.str))] [] tm hp fun (xx : ((ByteArray × (Int × (Int × ((List (List PC) × Bool) × Unit)))) × (ByteArray × Unit))) (yy : Unit) => f27 xx.1.1 xx.1.2.1 xx.1.2.2.1 xx.1.2.2.2.1.1 xx.1.2.2.2.1.2 xx.2.1 (fun s0_5 n0_6 n0_7 es0_8 full0_9 n0_10 => K (.tup [.pagg [pS s0_5, pI n0_6, pI n0_7, .sl 5 es0_8 full0_9], .one (.p (pI n0_10))]) [])
set_option maxRecDepth 100000 in
theorem f27_eq (s_48 : ByteArray) (n_49 : Int) (n_50 : Int) (es_51 : List (List PC)) (full_52 : Bool) (s_53 : ByteArray) (K : TV → List Entry → Prop) : (f27_d s_48 n_49 n_50 es_51 full_52 s_53 (fun s0_5 n0_6 n0_7 es0_8 full0_9 n0_10 => K (.tup [.pagg [pS s0_5, pI n0_6, pI n0_7, .sl 5 es0_8 full0_9], .one (.p (pI n0_10))]) [])) = funcT f27_C Tryd.f27 [.w (.pagg [pS s_48, pI n_49, pI n_50, .sl 5 es_51 full_52]), S s_53] [] K := by kernel_rfl
set_option maxHeartbeats 4000000 in
theorem f27_ok0 : FnOk Tryd.prog glob 27 f27_G0 := by
  refine FnOk.of_text (C := f27_C) tab_ok.ok (Known.add f62_G_ok (Known.add f61_G_ok (Known.add f58_1_G_ok (Known.add f16_G_ok (Known.none))))) follows_ok (fn := Tryd.f27) (by kernel_rfl) (by kernel_rfl) (by kernel_rfl) (fun c hc => ?_) fun tm hp K h => ?_
  · have e : c = bodyOf Tryd.f27 := Option.some.inj (hc.symm.trans (by kernel_rfl))
    subst e
    exact ⟨LoopsOk.of [nthC (bodies (bodyOf Tryd.f27)) 0] (by kernel_rfl) ⟨f27_p18_ok, trivial⟩, TailsOk.of (tab := f27_tab) rfl [] (by kernel_rfl) trivial⟩
  · unfold f27_G0 at h
    obtain ⟨xx, yy, rfl, rfl, h⟩ := getS_elim h
    have e := (f27_eq xx.1.1 xx.1.2.1 xx.1.2.2.1 xx.1.2.2.2.1.1 xx.1.2.2.2.1.2 xx.2.1 K).trans (show _ = funcT f27_C Tryd.f27 (mkR _ xx) (mkE _ yy) K by kernel_rfl)
    rw [← e]
    exact h.run
noncomputable abbrev f27_G := f27_G0
theorem f27_G_ok : FnOk Tryd.prog glob 27 f27_G := f27_ok0
end Go.Eng.N
set_option linter.unusedVariables false
set_option maxRecDepth 100000
open Go Go.Eng Go.Proofs
namespace Go.Eng.N
/-! ### f28: plenum/plenumref39.Without -/
noncomputable def f28_p12b0 (s8 : ByteArray) (n9 : Int) (s10 : ByteArray) (n11 : Int) (n12 : Int) (es13 : List (List PC)) (full14 : Bool) (s15 : ByteArray) (n16 : Int) (n17 : Int) (s18 : ByteArray) (n19 : Int) (n20 : Int) (i21 : Nat) (n22 : Nat) (es23 : List (List PC)) (N0 : Int → Nat → Nat → (List (List PC)) → Prop) (k0 : Nat → Nat → (List (List PC)) → Prop) : Prop := bB (decide (n9 < ((es13.length : Nat) : Int))) ((0 ≤ n9 ∧ n9 < ((es13.length : Nat) : Int)) ∧ oS (ext (List.getD es13 (Int.toNat n9) []) 0 1) fun s24 => bB (!(s24.toList == s8.toList)) ((0 ≤ n9 ∧ n9 < ((es13.length : Nat) : Int)) ∧ cS (ext (List.getD es13 (Int.toNat n9) []) 0 5) fun s26 r25 => cI .i64 r25 fun n28 r27 => cI .i64 r27 fun n30 r29 => cI .i64 r29 fun n32 r31 => cI .i64 r31 fun n34 r33 => nilC r33 <| (i21 + n22) = es23.length ∧ (n22 + 1) * 48 ≤ 2 ^ 46 ∧ (n22 + 1) ≤ 2 ^ 46 ∧ N0 (w64 (n9 + 1)) 0 (n22 + 1) (List.drop i21 es23 ++ [[pS s26, pI n28, pI n30, pI n32, pI n34]])) (N0 (w64 (n9 + 1)) i21 n22 es23)) (k0 i21 n22 es23)
noncomputable def f28_p12 (s8 : ByteArray) (s10 : ByteArray) (n11 : Int) (n12 : Int) (es13 : List (List PC)) (full14 : Bool) (s15 : ByteArray) (n16 : Int) (n17 : Int) (s18 : ByteArray) (n19 : Int) (n20 : Int) (k0 : Nat → Nat → (List (List PC)) → Prop) : Int × Nat × Nat × (List (List PC)) → Prop := LoopP fun x N => f28_p12b0 s8 x.1 s10 n11 n12 es13 full14 s15 n16 n17 s18 n19 n20 x.2.1 x.2.2.1 x.2.2.2 (fun n9 i21 n22 es23 => N (n9, i21, n22, es23)) k0
noncomputable def f28_p38b0 (n69 : Int) (n70 : Int) (n71 : Int) (s72 : ByteArray) (n73 : Int) (n74 : Int) (es75 : List (List PC)) (full76 : Bool) (s77 : ByteArray) (n78 : Int) (n79 : Int) (s80 : ByteArray) (n81 : Int) (n82 : Int) (i83 : Nat) (n84 : Nat) (es85 : List (List PC)) (N0 : Int → Prop) (k0 : Int → ByteArray → Int → Int → Prop) (k1 : Unit → Prop) : Prop := bB (decide (n71 ≤ 4)) (f60 s72 n73 n74 es75 full76 n69 n70 n71 (fun b86 => bB b86 (f60 s80 n81 n82 (List.take n84 (List.drop i83 es85)) false n69 n70 n71 (fun b87 => bB (!b87) (k0 10 (⟨#[]⟩ : ByteArray) 0 0) (N0 (w64 (2 * n71))))) (N0 (w64 (2 * n71))))) (k1 ())
noncomputable def f28_p38 (n69 : Int) (n70 : Int) (s72 : ByteArray) (n73 : Int) (n74 : Int) (es75 : List (List PC)) (full76 : Bool) (s77 : ByteArray) (n78 : Int) (n79 : Int) (s80 : ByteArray) (n81 : Int) (n82 : Int) (i83 : Nat) (n84 : Nat) (es85 : List (List PC)) (k0 : Int → ByteArray → Int → Int → Prop) (k1 : Unit → Prop) : Int → Prop := LoopP fun x N => f28_p38b0 n69 n70 x s72 n73 n74 es75 full76 s77 n78 n79 s80 n81 n82 i83 n84 es85 (fun n71 => N n71) k0 k1
noncomputable def f28_p32b0 (n53 : Int) (n54 : Int) (s55 : ByteArray) (n56 : Int) (n57 : Int) (es58 : List (List PC)) (full59 : Bool) (s60 : ByteArray) (n61 : Int) (n62 : Int) (s63 : ByteArray) (n64 : Int) (n65 : Int) (i66 : Nat) (n67 : Nat) (es68 : List (List PC)) (N0 : Int → Prop) (k0 : Int → ByteArray → Int → Int → Prop) (k1 : Unit → Prop) : Prop := bB (decide (n54 < 1440)) (f28_p38 n53 n54 s55 n56 n57 es58 full59 s60 n61 n62 s63 n64 n65 i66 n67 es68 (fun n88 s89 n90 n91 => k0 n88 s89 n90 n91) (fun (_ : Unit) => N0 (w64 (n54 + 1))) 1) (k1 ())
noncomputable def f28_p32 (n53 : Int) (s55 : ByteArray) (n56 : Int) (n57 : Int) (es58 : List (List PC)) (full59 : Bool) (s60 : ByteArray) (n61 : Int) (n62 : Int) (s63 : ByteArray) (n64 : Int) (n65 : Int) (i66 : Nat) (n67 : Nat) (es68 : List (List PC)) (k0 : Int → ByteArray → Int → Int → Prop) (k1 : Unit → Prop) : Int → Prop := LoopP fun x N => f28_p32b0 n53 x s55 n56 n57 es58 full59 s60 n61 n62 s63 n64 n65 i66 n67 es68 (fun n54 => N n54) k0 k1
noncomputable def f28_p26b0 (n38 : Int) (s39 : ByteArray) (n40 : Int) (n41 : Int) (es42 : List (List PC)) (full43 : Bool) (s44 : ByteArray) (n45 : Int) (n46 : Int) (s47 : ByteArray) (n48 : Int) (n49 : Int) (i50 : Nat) (n51 : Nat) (es52 : List (List PC)) (N0 : Int → Prop) (k0 : Int → ByteArray → Int → Int → Prop) (k1 : Unit → Prop) : Prop := bB (decide (n38 < 7)) (f28_p32 n38 s39 n40 n41 es42 full43 s44 n45 n46 s47 n48 n49 i50 n51 es52 (fun n92 s93 n94 n95 => k0 n92 s93 n94 n95) (fun (_ : Unit) => N0 (w64 (n38 + 1))) 0) (k1 ())
noncomputable def f28_p26 (s39 : ByteArray) (n40 : Int) (n41 : Int) (es42 : List (List PC)) (full43 : Bool) (s44 : ByteArray) (n45 : Int) (n46 : Int) (s47 : ByteArray) (n48 : Int) (n49 : Int) (i50 : Nat) (n51 : Nat) (es52 : List (List PC)) (k0 : Int → ByteArray → Int → Int → Prop) (k1 : Unit → Prop) : Int → Prop := LoopP fun x N => f28_p26b0 x s39 n40 n41 es42 full43 s44 n45 n46 s47 n48 n49 i50 n51 es52 (fun n38 => N n38) k0 k1
noncomputable def f28_d (s1 : ByteArray) (n2 : Int) (n3 : Int) (es4 : List (List PC)) (full5 : Bool) (s6 : ByteArray) (k0 : ByteArray → Int → Int → (List (List PC)) → Bool → Int → Prop) : Prop := f17 s1 n2 n3 es4 full5 (fun n7 => bB (n7 != 0) (k0 (⟨#[]⟩ : ByteArray) 0 0 [] true n7) (f28_p12 s6 s1 n2 n3 es4 full5 (⟨#[]⟩ : ByteArray) 0 0 s1 n2 n3 (fun i35 n36 es37 => bB (((n36 : Nat) : Int) == ((es4.length : Nat) : Int)) (k0 (⟨#[]⟩ : ByteArray) 0 0 [] true 3) (f28_p26 s1 n2 n3 es4 full5 (⟨#[]⟩ : ByteArray) 0 0 s1 n2 n3 i35 n36 es37 (fun n96 s97 n98 n99 => k0 s97 n98 n99 [] true n96) (fun (_ : Unit) => k0 s1 n2 n3 (List.take n36 (List.drop i35 es37)) false 0) 0)) (0, 0, 0, [])))
structure f28 (s1 : ByteArray) (n2 : Int) (n3 : Int) (es4 : List (List PC)) (full5 : Bool) (s6 : ByteArray) (k0 : ByteArray → Int → Int → (List (List PC)) → Bool → Int → Prop) : Prop where
  run : f28_d s1 n2 n3 es4 full5 s6 k0
noncomputable def f28_p12L : Told := fun s K => match s with
  | ⟨tm, hp⟩ => getS [.skip 1, .v (.one (.str)), .v (.one (.ptr 0 0 0)), .skip 1, .v (.one (.ptr 1 0 0)), .skip 2, .v (.one (.ptr 2 0 0)), .v (.one (.int .i64)), .skip 76] [.box [.str, .int .i64, .int .i64, .sl 5], .box [.str, .int .i64, .int .i64, .nil 5], .box [.str, .int .i64, .int .i64, .ref 3], .vec 5 true] tm hp fun (xx : (Unit × (ByteArray × (Unit × (Unit × (Unit × (Unit × (Unit × (Int × (Unit × Unit)))))))))) (yy : ((ByteArray × (Int × (Int × ((List (List PC) × Bool) × Unit)))) × ((ByteArray × (Int × (Int × (Unit × Unit)))) × ((ByteArray × (Int × (Int × ((Nat × Nat) × Unit)))) × ((List (List PC)) × Unit))))) => f28_p12 xx.2.1 yy.1.1 yy.1.2.1 yy.1.2.2.1 yy.1.2.2.2.1.1 yy.1.2.2.2.1.2 yy.2.1.1 yy.2.1.2.1 yy.2.1.2.2.1 yy.2.2.1.1 yy.2.2.1.2.1 yy.2.2.1.2.2.1 (fun i0_0 n0_1 es0_2 => K (.exit 0) ⟨mkS 85 [(2, .w (.one (.ptr 0 0 0))), (4, .w (.one (.ptr 1 0 0))), (7, .w (.one (.ptr 2 0 0)))], [.box [.p (pS yy.1.1), .p (pI yy.1.2.1), .p (pI yy.1.2.2.1), .p (.sl 5 yy.1.2.2.2.1.1 yy.1.2.2.2.1.2)], .box [.p (pS yy.2.1.1), .p (pI yy.2.1.2.1), .p (pI yy.2.1.2.2.1), .p (.sl 5 [] true)], .box [.p (pS yy.2.2.1.1), .p (pI yy.2.2.1.2.1), .p (pI yy.2.2.1.2.2.1), .ref 3 i0_0 n0_1], .vec 5 es0_2 true]⟩) (xx.2.2.2.2.2.2.2.1, yy.2.2.1.2.2.2.1.1, yy.2.2.1.2.2.2.1.2, yy.2.2.2.1)
noncomputable def f28_p38L : Told := fun s K => match s with
  | ⟨tm, hp⟩ => getS [.skip 2, .v (.one (.ptr 0 0 0)), .skip 1, .v (.one (.ptr 1 0 0)), .skip 2, .v (.one (.ptr 2 0 0)), .skip 1, .v (.one (.int .i64)), .v (.one (.int .i64)), .v (.one (.int .i64)), .skip 73] [.box [.str, .int .i64, .int .i64, .sl 5], .box [.str, .int .i64, .int .i64, .nil 5], .box [.str, .int .i64, .int .i64, .ref 3], .vec 5 true] tm hp fun (xx : (Unit × (Unit × (Unit × (Unit × (Unit × (Unit × (Unit × (Int × (Int × (Int × (Unit × Unit)))))))))))) (yy : ((ByteArray × (Int × (Int × ((List (List PC) × Bool) × Unit)))) × ((ByteArray × (Int × (Int × (Unit × Unit)))) × ((ByteArray × (Int × (Int × ((Nat × Nat) × Unit)))) × ((List (List PC)) × Unit))))) => f28_p38 xx.2.2.2.2.2.2.2.1 xx.2.2.2.2.2.2.2.2.1 yy.1.1 yy.1.2.1 yy.1.2.2.1 yy.1.2.2.2.1.1 yy.1.2.2.2.1.2 yy.2.1.1 yy.2.1.2.1 yy.2.1.2.2.1 yy.2.2.1.1 yy.2.2.1.2.1 yy.2.2.1.2.2.1 yy.2.2.1.2.2.2.1.1 yy.2.2.1.2.2.2.1.2 yy.2.2.2.1 (fun n0_3 s0_4 n0_5 n0_6 => K .ret ⟨mkS 85 [(4, .w (.one (.ptr 0 0 0))), (5, I n0_3)], [.box [.p (pS s0_4), .p (pI n0_5), .p (pI n0_6), .p (.sl 5 [] true)]]⟩) (fun (_ : Unit) => K (.exit 6) ⟨mkS 85 [(2, .w (.one (.ptr 0 0 0))), (4, .w (.one (.ptr 1 0 0))), (7, .w (.one (.ptr 2 0 0))), (9, I xx.2.2.2.2.2.2.2.1), (10, I xx.2.2.2.2.2.2.2.2.1)], [.box [.p (pS yy.1.1), .p (pI yy.1.2.1), .p (pI yy.1.2.2.1), .p (.sl 5 yy.1.2.2.2.1.1 yy.1.2.2.2.1.2)], .box [.p (pS yy.2.1.1), .p (pI yy.2.1.2.1), .p (pI yy.2.1.2.2.1), .p (.sl 5 [] true)], .box [.p (pS yy.2.2.1.1), .p (pI yy.2.2.1.2.1), .p (pI yy.2.2.1.2.2.1), .ref 3 yy.2.2.1.2.2.2.1.1 yy.2.2.1.2.2.2.1.2], .vec 5 yy.2.2.2.1 true]⟩) xx.2.2.2.2.2.2.2.2.2.1
noncomputable def f28_p32L : Told := fun s K => match s with
  | ⟨tm, hp⟩ => getS [.skip 2, .v (.one (.ptr 0 0 0)), .skip 1, .v (.one (.ptr 1 0 0)), .skip 2, .v (.one (.ptr 2 0 0)), .skip 1, .v (.one (.int .i64)), .v (.one (.int .i64)), .skip 74] [.box [.str, .int .i64, .int .i64, .sl 5], .box [.str, .int .i64, .int .i64, .nil 5], .box [.str, .int .i64, .int .i64, .ref 3], .vec 5 true] tm hp fun (xx : (Unit × (Unit × (Unit × (Unit × (Unit × (Unit × (Unit × (Int × (Int × (Unit × Unit))))))))))) (yy : ((ByteArray × (Int × (Int × ((List (List PC) × Bool) × Unit)))) × ((ByteArray × (Int × (Int × (Unit × Unit)))) × ((ByteArray × (Int × (Int × ((Nat × Nat) × Unit)))) × ((List (List PC)) × Unit))))) => f28_p32 xx.2.2.2.2.2.2.2.1 yy.1.1 yy.1.2.1 yy.1.2.2.1 yy.1.2.2.2.1.1 yy.1.2.2.2.1.2 yy.2.1.1 yy.2.1.2.1 yy.2.1.2.2.1 yy.2.2.1.1 yy.2.2.1.2.1 yy.2.2.1.2.2.1 yy.2.2.1.2.2.2.1.1 yy.2.2.1.2.2.2.1.2 yy.2.2.2.1 (fun n0_7 s0_8 n0_9 n0_10 => K .ret ⟨mkS 85 [(4, .w (.one (.ptr 0 0 0))), (5, I n0_7)], [.box [.p (pS s0_8), .p (pI n0_9), .p (pI n0_10), .p (.sl 5 [] true)]]⟩) (fun (_ : Unit) => K (.exit 4) ⟨mkS 85 [(2, .w (.one (.ptr 0 0 0))), (4, .w (.one (.ptr 1 0 0))), (7, .w (.one (.ptr 2 0 0))), (9, I xx.2.2.2.2.2.2.2.1)], [.box [.p (pS yy.1.1), .p (pI yy.1.2.1), .p (pI yy.1.2.2.1), .p (.sl 5 yy.1.2.2.2.1.1 yy.1.2.2.2.1.2)], .box [.p (pS yy.2.1.1), .p (pI yy.2.1.2.1), .p (pI yy.2.1.2.2.1), .p (.sl 5 [] true)], .box [.p (pS yy.2.2.1.1), .p (pI yy.2.2.1.2.1), .p (pI yy.2.2.1.2.2.1), .ref 3 yy.2.2.1.2.2.2.1.1 yy.2.2.1.2.2.2.1.2], .vec 5 yy.2.2.2.1 true]⟩) xx.2.2.2.2.2.2.2.2.1
noncomputable def f28_p26L : Told := fun s K => match s with
  | ⟨tm, hp⟩ => getS [.skip 2, .v (.one (.ptr 0 0 0)), .skip 1, .v (.one (.ptr 1 0 0)), .skip 2, .v (.one (.ptr 2 0 0)), .skip 1, .v (.one (.int .i64)), .skip 75] [.box [.str, .int .i64, .int .i64, .sl 5], .box [.str, .int .i64, .int .i64, .nil 5], .box [.str, .int .i64, .int .i64, .ref 3], .vec 5 true] tm hp fun (xx : (Unit × (Unit × (Unit × (Unit × (Unit × (Unit × (Unit × (Int × (Unit × Unit)))))))))) (yy : ((ByteArray × (Int × (Int × ((List (List PC) × Bool) × Unit)))) × ((ByteArray × (Int × (Int × (Unit × Unit)))) × ((ByteArray × (Int × (Int × ((Nat × Nat) × Unit)))) × ((List (List PC)) × Unit))))) => f28_p26 yy.1.1 yy.1.2.1 yy.1.2.2.1 yy.1.2.2.2.1.1 yy.1.2.2.2.1.2 yy.2.1.1 yy.2.1.2.1 yy.2.1.2.2.1 yy.2.2.1.1 yy.2.2.1.2.1 yy.2.2.1.2.2.1 yy.2.2.1.2.2.2.1.1 yy.2.2.1.2.2.2.1.2 yy.2.2.2.1 (fun n0_11 s0_12 n0_13 n0_14 => K .ret ⟨mkS 85 [(4, .w (.one (.ptr 0 0 0))), (5, I n0_11)], [.box [.p (pS s0_12), .p (pI n0_13), .p (pI n0_14), .p (.sl 5 [] true)]]⟩) (fun (_ : Unit) => K (.exit 2) ⟨mkS 85 [(4, .w (.one (.ptr 0 0 0))), (7, .w (.one (.ptr 1 0 0)))], [.box [.p (pS yy.2.1.1), .p (pI yy.2.1.2.1), .p (pI yy.2.1.2.2.1), .p (.sl 5 [] true)], .box [.p (pS yy.2.2.1.1), .p (pI yy.2.2.1.2.1), .p (pI yy.2.2.1.2.2.1), .ref 2 yy.2.2.1.2.2.2.1.1 yy.2.2.1.2.2.2.1.2], .vec 5 yy.2.2.2.1 true]⟩) xx.2.2.2.2.2.2.2.1
noncomputable def f28_tab : List (Nat × Told) := [(12, f28_p12L), (38, f28_p38L), (32, f28_p32L), (26, f28_p26L)]
noncomputable def f28_call : FuncId → List TV → List Entry → (TV → List Entry → Prop) → Prop := addCall 60 f60_G (addCall 17 f17_G (noCalls))
noncomputable def f28_C : Ctx := { ty := tyOf tab, glob := glob, byRef := byRef, keep := fun k i => lookN [] (lookN [] ([(12, [(0, [1, 2, 4, 7, 8]), (2, [4, 5]), (3, [2, 4, 7])]), (38, [(0, [2, 4, 7, 9, 10, 11]), (2, [4, 5]), (5, [4, 7]), (6, [2, 4, 7, 9]), (7, [2, 4, 7, 9]), (8, [2, 4, 7, 9, 10]), (9, [2, 4, 7, 9, 10])]), (32, [(0, [2, 4, 7, 9, 10]), (2, [4, 5]), (5, [4, 7]), (6, [2, 4, 7, 9]), (7, [2, 4, 7, 9])]), (26, [(0, [2, 4, 7, 9]), (2, [4, 5]), (5, [4, 7])])] : List (Nat × List (Nat × List Nat))) k) i, late := lookN [] ([] : List (Nat × List Nat)), nref := lookN [] ([] : List (Nat × List Nat)), nbox := lookN [] ([(12, [(2, 3)])] : List (Nat × List (Nat × Nat))), take := [], rnil := false, m := 0, fz := true, loops := lookL f28_tab, call := f28_call }
noncomputable def f28_p12_mk (s8 : ByteArray) (s10 : ByteArray) (n11 : Int) (n12 : Int) (es13 : List (List PC)) (full14 : Bool) (s15 : ByteArray) (n16 : Int) (n17 : Int) (s18 : ByteArray) (n19 : Int) (n20 : Int) (x : Int × Nat × Nat × (List (List PC))) : St := ⟨mkS 85 [(1, S s8), (2, .w (.one (.ptr 0 0 0))), (4, .w (.one (.ptr 1 0 0))), (7, .w (.one (.ptr 2 0 0))), (8, I x.1)], [.box [.p (pS s10), .p (pI n11), .p (pI n12), .p (.sl 5 es13 full14)], .box [.p (pS s15), .p (pI n16), .p (pI n17), .p (.sl 5 [] true)], .box [.p (pS s18), .p (pI n19), .p (pI n20), .ref 3 x.2.1 x.2.2.1], .vec 5 x.2.2.2 true]⟩
set_option maxRecDepth 100000 in
theorem f28_p12e0 (s_37 : ByteArray) (n_38 : Int) (s_39 : ByteArray) (n_40 : Int) (n_41 : Int) (es_42 : List (List PC)) (full_43 : Bool) (s_44 : ByteArray) (n_45 : Int) (n_46 : Int) (s_47 : ByteArray) (n_48 : Int) (n_49 : Int) (i_50 : Nat) (n_51 : Nat) (es_52 : List (List PC)) (N : St → Prop) (K : TExit → St → Prop) : (f28_p12b0 s_37 n_38 s_39 n_40 n_41 es_42 full_43 s_44 n_45 n_46 s_47 n_48 n_49 i_50 n_51 es_52 (fun z1 z13 z14 z15 => N (f28_p12_mk s_37 s_39 n_40 n_41 es_42 full_43 s_44 n_45 n_46 s_47 n_48 n_49 (z1, z13, z14, z15))) (fun i0_53 n0_54 es0_55 => K (.exit 0) ⟨mkS 85 [(2, .w (.one (.ptr 0 0 0))), (4, .w (.one (.ptr 1 0 0))), (7, .w (.one (.ptr 2 0 0)))], [.box [.p (pS s_39), .p (pI n_40), .p (pI n_41), .p (.sl 5 es_42 full_43)], .box [.p (pS s_44), .p (pI n_45), .p (pI n_46), .p (.sl 5 [] true)], .box [.p (pS s_47), .p (pI n_48), .p (pI n_49), .ref 3 i0_53 n0_54], .vec 5 es0_55 true]⟩)) = execT f28_C (nthC (bodies (bodyOf Tryd.f28)) 0) (f28_p12_mk s_37 s_39 n_40 n_41 es_42 full_43 s_44 n_45 n_46 s_47 n_48 n_49 (n_38, i_50, n_51, es_52)) (loopK N (normK f28_C 12) fun e s => K e (normOut f28_C 12 e s)) := by kernel_rfl
noncomputable def f28_p38_mk (n69 : Int) (n70 : Int) (s72 : ByteArray) (n73 : Int) (n74 : Int) (es75 : List (List PC)) (full76 : Bool) (s77 : ByteArray) (n78 : Int) (n79 : Int) (s80 : ByteArray) (n81 : Int) (n82 : Int) (i83 : Nat) (n84 : Nat) (es85 : List (List PC)) (x : Int) : St := ⟨mkS 85 [(2, .w (.one (.ptr 0 0 0))), (4, .w (.one (.ptr 1 0 0))), (7, .w (.one (.ptr 2 0 0))), (9, I n69), (10, I n70), (11, I x)], [.box [.p (pS s72), .p (pI n73), .p (pI n74), .p (.sl 5 es75 full76)], .box [.p (pS s77), .p (pI n78), .p (pI n79), .p (.sl 5 [] true)], .box [.p (pS s80), .p (pI n81), .p (pI n82), .ref 3 i83 n84], .vec 5 es85 true]⟩
set_option maxRecDepth 100000 in
theorem f28_p38e0 (n_73 : Int) (n_74 : Int) (n_75 : Int) (s_76 : ByteArray) (n_77 : Int) (n_78 : Int) (es_79 : List (List PC)) (full_80 : Bool) (s_81 : ByteArray) (n_82 : Int) (n_83 : Int) (s_84 : ByteArray) (n_85 : Int) (n_86 : Int) (i_87 : Nat) (n_88 : Nat) (es_89 : List (List PC)) (N : St → Prop) (K : TExit → St → Prop) : (f28_p38b0 n_73 n_74 n_75 s_76 n_77 n_78 es_79 full_80 s_81 n_82 n_83 s_84 n_85 n_86 i_87 n_88 es_89 (fun z2 => N (f28_p38_mk n_73 n_74 s_76 n_77 n_78 es_79 full_80 s_81 n_82 n_83 s_84 n_85 n_86 i_87 n_88 es_89 z2)) (fun n0_90 s0_91 n0_92 n0_93 => K .ret ⟨mkS 85 [(4, .w (.one (.ptr 0 0 0))), (5, I n0_90)], [.box [.p (pS s0_91), .p (pI n0_92), .p (pI n0_93), .p (.sl 5 [] true)]]⟩) (fun (_ : Unit) => K (.exit 6) ⟨mkS 85 [(2, .w (.one (.ptr 0 0 0))), (4, .w (.one (.ptr 1 0 0))), (7, .w (.one (.ptr 2 0 0))), (9, I n_73), (10, I n_74)], [.box [.p (pS s_76), .p (pI n_77), .p (pI n_78), .p (.sl 5 es_79 full_80)], .box [.p (pS s_81), .p (pI n_82), .p (pI n_83), .p (.sl 5 [] true)], .box [.p (pS s_84), .p (pI n_85), .p (pI n_86), .ref 3 i_87 n_88], .vec 5 es_89 true]⟩)) = execT f28_C (nthC (bodies (bodyOf Tryd.f28)) 3) (f28_p38_mk n_73 n_74 s_76 n_77 n_78 es_79 full_80 s_81 n_82 n_83 s_84 n_85 n_86 i_87 n_88 es_89 n_75) (loopK N (normK f28_C 38) fun e s => K e (normOut f28_C 38 e s)) := by kernel_rfl
noncomputable def f28_p32_mk (n53 : Int) (s55 : ByteArray) (n56 : Int) (n57 : Int) (es58 : List (List PC)) (full59 : Bool) (s60 : ByteArray) (n61 : Int) (n62 : Int) (s63 : ByteArray) (n64 : Int) (n65 : Int) (i66 : Nat) (n67 : Nat) (es68 : List (List PC)) (x : Int) : St := ⟨mkS 85 [(2, .w (.one (.ptr 0 0 0))), (4, .w (.one (.ptr 1 0 0))), (7, .w (.one (.ptr 2 0 0))), (9, I n53), (10, I x)], [.box [.p (pS s55), .p (pI n56), .p (pI n57), .p (.sl 5 es58 full59)], .box [.p (pS s60), .p (pI n61), .p (pI n62), .p (.sl 5 [] true)], .box [.p (pS s63), .p (pI n64), .p (pI n65), .ref 3 i66 n67], .vec 5 es68 true]⟩
set_option maxRecDepth 100000 in
theorem f28_p32e0 (n_110 : Int) (n_111 : Int) (s_112 : ByteArray) (n_113 : Int) (n_114 : Int) (es_115 : List (List PC)) (full_116 : Bool) (s_117 : ByteArray) (n_118 : Int) (n_119 : Int) (s_120 : ByteArray) (n_121 : Int) (n_122 : Int) (i_123 : Nat) (n_124 : Nat) (es_125 : List (List PC)) (N : St → Prop) (K : TExit → St → Prop) : (f28_p32b0 n_110 n_111 s_112 n_113 n_114 es_115 full_116 s_117 n_118 n_119 s_120 n_121 n_122 i_123 n_124 es_125 (fun z1 => N (f28_p32_mk n_110 s_112 n_113 n_114 es_115 full_116 s_117 n_118 n_119 s_120 n_121 n_122 i_123 n_124 es_125 z1)) (fun n0_126 s0_127 n0_128 n0_129 => K .ret ⟨mkS 85 [(4, .w (.one (.ptr 0 0 0))), (5, I n0_126)], [.box [.p (pS s0_127), .p (pI n0_128), .p (pI n0_129), .p (.sl 5 [] true)]]⟩) (fun (_ : Unit) => K (.exit 4) ⟨mkS 85 [(2, .w (.one (.ptr 0 0 0))), (4, .w (.one (.ptr 1 0 0))), (7, .w (.one (.ptr 2 0 0))), (9, I n_110)], [.box [.p (pS s_112), .p (pI n_113), .p (pI n_114), .p (.sl 5 es_115 full_116)], .box [.p (pS s_117), .p (pI n_118), .p (pI n_119), .p (.sl 5 [] true)], .box [.p (pS s_120), .p (pI n_121), .p (pI n_122), .ref 3 i_123 n_124], .vec 5 es_125 true]⟩)) = execT f28_C (nthC (bodies (bodyOf Tryd.f28)) 2) (f28_p32_mk n_110 s_112 n_113 n_114 es_115 full_116 s_117 n_118 n_119 s_120 n_121 n_122 i_123 n_124 es_125 n_111) (loopK N (normK f28_C 32) fun e s => K e (normOut f28_C 32 e s)) := by kernel_rfl
noncomputable def f28_p26_mk (s39 : ByteArray) (n40 : Int) (n41 : Int) (es42 : List (List PC)) (full43 : Bool) (s44 : ByteArray) (n45 : Int) (n46 : Int) (s47 : ByteArray) (n48 : Int) (n49 : Int) (i50 : Nat) (n51 : Nat) (es52 : List (List PC)) (x : Int) : St := ⟨mkS 85 [(2, .w (.one (.ptr 0 0 0))), (4, .w (.one (.ptr 1 0 0))), (7, .w (.one (.ptr 2 0 0))), (9, I x)], [.box [.p (pS s39), .p (pI n40), .p (pI n41), .p (.sl 5 es42 full43)], .box [.p (pS s44), .p (pI n45), .p (pI n46), .p (.sl 5 [] true)], .box [.p (pS s47), .p (pI n48), .p (pI n49), .ref 3 i50 n51], .vec 5 es52 true]⟩
set_option maxRecDepth 100000 in
theorem f28_p26e0 (n_145 : Int) (s_146 : ByteArray) (n_147 : Int) (n_148 : Int) (es_149 : List (List PC)) (full_150 : Bool) (s_151 : ByteArray) (n_152 : Int) (n_153 : Int) (s_154 : ByteArray) (n_155 : Int) (n_156 : Int) (i_157 : Nat) (n_158 : Nat) (es_159 : List (List PC)) (N : St → Prop) (K : TExit → St → Prop) : (f28_p26b0 n_145 s_146 n_147 n_148 es_149 full_150 s_151 n_152 n_153 s_154 n_155 n_156 i_157 n_158 es_159 (fun z0 => N (f28_p26_mk s_146 n_147 n_148 es_149 full_150 s_151 n_152 n_153 s_154 n_155 n_156 i_157 n_158 es_159 z0)) (fun n0_160 s0_161 n0_162 n0_163 => K .ret ⟨mkS 85 [(4, .w (.one (.ptr 0 0 0))), (5, I n0_160)], [.box [.p (pS s0_161), .p (pI n0_162), .p (pI n0_163), .p (.sl 5 [] true)]]⟩) (fun (_ : Unit) => K (.exit 2) ⟨mkS 85 [(4, .w (.one (.ptr 0 0 0))), (7, .w (.one (.ptr 1 0 0)))], [.box [.p (pS s_151), .p (pI n_152), .p (pI n_153), .p (.sl 5 [] true)], .box [.p (pS s_154), .p (pI n_155), .p (pI n_156), .ref 2 i_157 n_158], .vec 5 es_159 true]⟩)) = execT f28_C (nthC (bodies (bodyOf Tryd.f28)) 1) (f28_p26_mk s_146 n_147 n_148 es_149 full_150 s_151 n_152 n_153 s_154 n_155 n_156 i_157 n_158 es_159 n_145) (loopK N (normK f28_C 26) fun e s => K e (normOut f28_C 26 e s)) := by kernel_rfl
set_option maxHeartbeats 4000000 in
theorem f28_p12_ok : LoopOk f28_C (nthC (bodies (bodyOf Tryd.f28)) 0) := by
  refine LoopOk.of f28_p12L (by kernel_rfl) fun σ K h => ?_
  have hk : loopKey (nthC (bodies (bodyOf Tryd.f28)) 0) = 12 := by kernel_rfl
  rw [hk] at h ⊢
  generalize hs : normK f28_C 12 σ = s at h
  obtain ⟨tm, hp⟩ := s
  unfold f28_p12L at h
  dsimp only at h
  obtain ⟨xx, yy, rfl, rfl, h⟩ := getS_elim h
  refine iter_of (f28_p12_mk xx.2.1 yy.1.1 yy.1.2.1 yy.1.2.2.1 yy.1.2.2.2.1.1 yy.1.2.2.2.1.2 yy.2.1.1 yy.2.1.2.1 yy.2.1.2.2.1 yy.2.2.1.1 yy.2.2.1.2.1 yy.2.2.1.2.2.1) (fun x N h => ?_) rounds _ σ (hs.trans (by kernel_rfl)) (LoopP.run h)
  obtain ⟨y0, y1, y2, y3⟩ := x
  rw [← f28_p12e0 xx.2.1 y0 yy.1.1 yy.1.2.1 yy.1.2.2.1 yy.1.2.2.2.1.1 yy.1.2.2.2.1.2 yy.2.1.1 yy.2.1.2.1 yy.2.1.2.2.1 yy.2.2.1.1 yy.2.2.1.2.1 yy.2.2.1.2.2.1 y1 y2 y3 N K]
  exact h
set_option maxHeartbeats 4000000 in
theorem f28_p38_ok : LoopOk f28_C (nthC (bodies (bodyOf Tryd.f28)) 3) := by
  refine LoopOk.of f28_p38L (by kernel_rfl) fun σ K h => ?_
  have hk : loopKey (nthC (bodies (bodyOf Tryd.f28)) 3) = 38 := by kernel_rfl
  rw [hk] at h ⊢
  generalize hs : normK f28_C 38 σ = s at h
  obtain ⟨tm, hp⟩ := s
  unfold f28_p38L at h
  dsimp only at h
  obtain ⟨xx, yy, rfl, rfl, h⟩ := getS_elim h
  refine iter_of (f28_p38_mk xx.2.2.2.2.2.2.2.1 xx.2.2.2.2.2.2.2.2.1 yy.1.1 yy.1.2.1 yy.1.2.2.1 yy.1.2.2.2.1.1 yy.1.2.2.2.1.2 yy.2.1.1 yy.2.1.2.1 yy.2.1.2.2.1 yy.2.2.1.1 yy.2.2.1.2.1 yy.2.2.1.2.2.1 yy.2.2.1.2.2.2.1.1 yy.2.2.1.2.2.2.1.2 yy.2.2.2.1) (fun x N h => ?_) rounds _ σ (hs.trans (by kernel_rfl)) (LoopP.run h)
  rw [← f28_p38e0 xx.2.2.2.2.2.2.2.1 xx.2.2.2.2.2.2.2.2.1 x yy.1.1 yy.1.2.1 yy.1.2.2.1 yy.1.2.2.2.1.1 yy.1.2.2.2.1.2 yy.2.1.1 yy.2.1.2.1 yy.2.1.2.2.1 yy.2.2.1.1 yy.2.2.1.2.1 yy.2.2.1.2.2.1 yy.2.2.1.2.2.2.1.1 yy.2.2.1.2.2.2.1.2 yy.2.2.2.1 N K]
  exact h
set_option maxHeartbeats 4000000 in
theorem f28_p32_ok : LoopOk f28_C (nthC (bodies (bodyOf Tryd.f28)) 2) := by
  refine LoopOk.of f28_p32L (by kernel_rfl) fun σ K h => ?_
  have hk : loopKey (nthC (bodies (bodyOf Tryd.f28)) 2) = 32 := by kernel_rfl
  rw [hk] at h ⊢
  generalize hs : normK f28_C 32 σ = s at h
  obtain ⟨tm, hp⟩ := s
  unfold f28_p32L at h
  dsimp only at h
  obtain ⟨xx, yy, rfl, rfl, h⟩ := getS_elim h
  refine iter_of (f28_p32_mk xx.2.2.2.2.2.2.2.1 yy.1.1 yy.1.2.1 yy.1.2.2.1 yy.1.2.2.2.1.1 yy.1.2.2.2.1.2 yy.2.1.1 yy.2.1.2.1 yy.2.1.2.2.1 yy.2.2.1.1 yy.2.2.1.2.1 yy.2.2.1.2.2.1 yy.2.2.1.2.2.2.1.1 yy.2.2.1.2.2.2.1.2 yy.2.2.2.1) (fun x N h => ?_) rounds _ σ (hs.trans (by kernel_rfl)) (LoopP.run h)
  rw [← f28_p32e0 xx.2.2.2.2.2.2.2.1 x yy.1.1 yy.1.2.1 yy.1.2.2.1 yy.1.2.2.2.1.1 yy.1.2.2.2.1.2 yy.2.1.1 yy.2.1.2.1 yy.2.1.2.2.1 yy.2.2.1.1 yy.2.2.1.2.1 yy.2.2.1.2.2.1 yy.2.2.1.2.2.2.1.1 yy.2.2.1.2.2.2.1.2 yy.2.2.2.1 N K]
  exact h
set_option maxHeartbeats 4000000 in
theorem f28_p26_ok : LoopOk f28_C (nthC (bodies (bodyOf Tryd.f28)) 1) := by
  refine LoopOk.of f28_p26L (by kernel_rfl) fun σ K h => ?_
  have hk : loopKey (nthC (bodies (bodyOf Tryd.f28)) 1) = 26 := by kernel_rfl
  rw [hk] at h ⊢
  generalize hs : normK f28_C 26 σ = s at h
  obtain ⟨tm, hp⟩ := s
  unfold f28_p26L at h
  dsimp only at h
  obtain ⟨xx, yy, rfl, rfl, h⟩ := getS_elim h
  refine iter_of (f28_p26_mk yy.1.1 yy.1.2.1 yy.1.2.2.1 yy.1.2.2.2.1.1 yy.1.2.2.2.1.2 yy.2.1.1 yy.2.1.2.1 yy.2.1.2.2.1 yy.2.2.1.1 yy.2.2.1.2.1 yy.2.2.1.2.2.1 yy.2.2.1.2.2.2.1.1 yy.2.2.1.2.2.2.1.2 yy.2.2.2.1) (fun x N h => ?_) rounds _ σ (hs.trans (by kernel_rfl)) (LoopP.run h)
  rw [← f28_p26e0 x yy.1.1 yy.1.2.1 yy.1.2.2.1 yy.1.2.2.2.1.1 yy.1.2.2.2.1.2 yy.2.1.1 yy.2.1.2.1 yy.2.1.2.2.1 yy.2.2.1.1 yy.2.2.1.2.1 yy.2.2.1.2.2.1 yy.2.2.1.2.2.2.1.1 yy.2.2.1.2.2.2.1.2 yy.2.2.2.1 N K]
  exact h
noncomputable def f28_G0 : List TV → List Entry → (TV → List Entry → Prop) → Prop := fun tm hp K => getS [.v (.pagg [.str, .int .i64, .int .i64, .sl 5]), .v (.one (.str))] [] tm hp fun (xx : ((ByteArray × (Int × (Int × ((List (List PC) × Bool) × Unit)))) × (ByteArray × Unit))) (yy : Unit) => f28 xx.1.1 xx.1.2.1 xx.1.2.2.1 xx.1.2.2.2.1.1 xx.1.2.2.2.1.2 xx.2.1 (fun s0_15 n0_16 n0_17 es0_18 full0_19 n0_20 => K (.tup [.pagg [pS s0_15, pI n0_16, pI n0_17, .sl 5 es0_18 full0_19], .one (.p (pI n0_20))]) [])
set_option maxRecDepth 100000 in
theorem f28_eq (s_164 : ByteArray) (n_165 : Int) (n_166 : Int) (es_167 : List (List PC)) (full_168 : Bool) (s_169 : ByteArray) (K : TV → List Entry → Prop) : (f28_d s_164 n_165 n_166 es_167 full_168 s_169 (fun s0_15 n0_16 n0_17 es0_18 full0_19 n0_20 => K (.tup [.pagg [pS s0_15, pI n0_16, pI n0_17, .sl 5 es0_18 full0_19], .one (.p (pI n0_20))]) [])) = funcT f28_C Tryd.f28 [.w (.pagg [pS s_164, pI n_165, pI n_166, .sl 5 es_167 full_168]), S s_169] [] K := by kernel_rfl
set_option maxHeartbeats 4000000 in
theorem f28_ok0 : FnOk Tryd.prog glob 28 f28_G0 := by
  refine FnOk.of_text (C := f28_C) tab_ok.ok (Known.add f60_G_ok (Known.add f17_G_ok (Known.none))) follows_ok (fn := Tryd.f28) (by kernel_rfl) (by kernel_rfl) (by kernel_rfl) (fun c hc => ?_) fun tm hp K h => ?_
  · have e : c = bodyOf Tryd.f28 := Option.some.inj (hc.symm.trans (by kernel_rfl))
    subst e
    exact ⟨LoopsOk.of [nthC (bodies (bodyOf Tryd.f28)) 0, nthC (bodies (bodyOf Tryd.f28)) 1, nthC (bodies (bodyOf Tryd.f28)) 2, nthC (bodies (bodyOf Tryd.f28)) 3] (by kernel_rfl) ⟨f28_p12_ok, f28_p26_ok, f28_p32_ok, f28_p38_ok, trivial⟩, TailsOk.of (tab := f28_tab) rfl [] (by kernel_rfl) trivial⟩
  · unfold f28_G0 at h
    obtain ⟨xx, yy, rfl, rfl, h⟩ := getS_elim h
    have e := (f28_eq xx.1.1 xx.1.2.1 xx.1.2.2.1 xx.1.2.2.2.1.1 xx.1.2.2.2.1.2 xx.2.1 K).trans (show _ = funcT f28_C Tryd.f28 (mkR _ xx) (mkE _ yy) K by kernel_rfl)
    rw [← e]
    exact h.run
noncomputable abbrev f28_G := f28_G0
theorem f28_G_ok : FnOk Tryd.prog glob 28 f28_G := f28_ok0
end Go.Eng.N
set_option linter.unusedVariables false
set_option maxRecDepth 100000
open Go Go.Eng Go.Proofs
namespace Go.Eng.N
/-! ### f29: plenum/plenumref39.Equal -/
noncomputable def f29_p8b0 (n21 : Int) (s22 : ByteArray) (n23 : Int) (n24 : Int) (es25 : List (List PC)) (full26 : Bool) (s27 : ByteArray) (n28 : Int) (n29 : Int) (es30 : List (List PC)) (full31 : Bool) (N0 : Int → Prop) (k0 : Bool → Prop) (k1 : Unit → Prop) : Prop := bB (decide (n21 < ((es25.length : Nat) : Int))) ((0 ≤ n21 ∧ n21 < ((es25.length : Nat) : Int)) ∧ cS (ext (List.getD es25 (Int.toNat n21) []) 0 5) fun s33 r32 => cI .i64 r32 fun n35 r34 => cI .i64 r34 fun n37 r36 => cI .i64 r36 fun n39 r38 => cI .i64 r38 fun n41 r40 => nilC r40 <| (0 ≤ n21 ∧ n21 < ((es30.length : Nat) : Int)) ∧ cS (ext (List.getD es30 (Int.toNat n21) []) 0 5) fun s43 r42 => cI .i64 r42 fun n45 r44 => cI .i64 r44 fun n47 r46 => cI .i64 r46 fun n49 r48 => cI .i64 r48 fun n51 r50 => nilC r50 <| bB (!((s33 == s43) && ((n35 == n45) && ((n37 == n47) && ((n39 == n49) && ((n41 == n51) && true)))))) (k0 false) (N0 (w64 (n21 + 1)))) (k1 ())
noncomputable def f29_p8 (s22 : ByteArray) (n23 : Int) (n24 : Int) (es25 : List (List PC)) (full26 : Bool) (s27 : ByteArray) (n28 : Int) (n29 : Int) (es30 : List (List PC)) (full31 : Bool) (k0 : Bool → Prop) (k1 : Unit → Prop) : Int → Prop := LoopP fun x N => f29_p8b0 x s22 n23 n24 es25 full26 s27 n28 n29 es30 full31 (fun n21 => N n21) k0 k1
noncomputable def f29_p7 (s11 : ByteArray) (n12 : Int) (n13 : Int) (es14 : List (List PC)) (full15 : Bool) (s16 : ByteArray) (n17 : Int) (n18 : Int) (es19 : List (List PC)) (full20 : Bool) (k0 : Bool → Prop) : Prop := f29_p8 s11 n12 n13 es14 full15 s16 n17 n18 es19 full20 (fun b52 => k0 b52) (fun (_ : Unit) => k0 true) 0
noncomputable def f29_d (s1 : ByteArray) (n2 : Int) (n3 : Int) (es4 : List (List PC)) (full5 : Bool) (s6 : ByteArray) (n7 : Int) (n8 : Int) (es9 : List (List PC)) (full10 : Bool) (k0 : Bool → Prop) : Prop := bB (!(s1.toList == s6.toList)) (k0 false) (bB (n2 != n7) (k0 false) (bB (n3 != n8) (k0 false) (bB (((es4.length : Nat) : Int) != ((es9.length : Nat) : Int)) (k0 false) (f29_p7 s1 n2 n3 es4 full5 s6 n7 n8 es9 full10 (fun b53 => k0 b53)))))
structure f29 (s1 : ByteArray) (n2 : Int) (n3 : Int) (es4 : List (List PC)) (full5 : Bool) (s6 : ByteArray) (n7 : Int) (n8 : Int) (es9 : List (List PC)) (full10 : Bool) (k0 : Bool → Prop) : Prop where
  run : f29_d s1 n2 n3 es4 full5 s6 n7 n8 es9 full10 k0
noncomputable def f29_p8L : Told := fun s K => match s with
  | ⟨tm, hp⟩ => getS [.skip 2, .v (.one (.ptr 0 0 0)), .v (.one (.ptr 1 0 0)), .skip 1, .v (.one (.int .i64)), .skip 46] [.box [.str, .int .i64, .int .i64, .sl 5], .box [.str, .int .i64, .int .i64, .sl 5]] tm hp fun (xx : (Unit × (Unit × (Unit × (Unit × (Int × (Unit × Unit))))))) (yy : ((ByteArray × (Int × (Int × ((List (List PC) × Bool) × Unit)))) × ((ByteArray × (Int × (Int × ((List (List PC) × Bool) × Unit)))) × Unit))) => f29_p8 yy.1.1 yy.1.2.1 yy.1.2.2.1 yy.1.2.2.2.1.1 yy.1.2.2.2.1.2 yy.2.1.1 yy.2.1.2.1 yy.2.1.2.2.1 yy.2.1.2.2.2.1.1 yy.2.1.2.2.2.1.2 (fun b0_0 => K .ret ⟨mkS 52 [(4, B b0_0)], []⟩) (fun (_ : Unit) => K (.exit 0) ⟨mkS 52 [], []⟩) xx.2.2.2.2.1
noncomputable def f29_p7L : Told := fun s K => match s with
  | ⟨tm, hp⟩ => getS [.skip 2, .v (.one (.ptr 0 0 0)), .v (.one (.ptr 1 0 0)), .skip 48] [.box [.str, .int .i64, .int .i64, .sl 5], .box [.str, .int .i64, .int .i64, .sl 5]] tm hp fun (xx : (Unit × (Unit × (Unit × (Unit × Unit))))) (yy : ((ByteArray × (Int × (Int × ((List (List PC) × Bool) × Unit)))) × ((ByteArray × (Int × (Int × ((List (List PC) × Bool) × Unit)))) × Unit))) => f29_p7 yy.1.1 yy.1.2.1 yy.1.2.2.1 yy.1.2.2.2.1.1 yy.1.2.2.2.1.2 yy.2.1.1 yy.2.1.2.1 yy.2.1.2.2.1 yy.2.1.2.2.2.1.1 yy.2.1.2.2.2.1.2 (fun b0_1 => K .ret ⟨mkS 52 [(4, B b0_1)], []⟩)
noncomputable def f29_tab : List (Nat × Told) := [(8, f29_p8L), (7, f29_p7L)]
noncomputable def f29_call : FuncId → List TV → List Entry → (TV → List Entry → Prop) → Prop := noCalls
noncomputable def f29_C : Ctx := { ty := tyOf tab, glob := glob, byRef := byRef, keep := fun k i => lookN [] (lookN [] ([(8, [(0, [2, 3, 5]), (2, [4]), (3, [])]), (7, [(0, [2, 3]), (1, [4]), (2, [4])])] : List (Nat × List (Nat × List Nat))) k) i, late := lookN [] ([] : List (Nat × List Nat)), nref := lookN [] ([] : List (Nat × List Nat)), nbox := lookN [] ([] : List (Nat × List (Nat × Nat))), take := [], rnil := false, m := 0, fz := true, loops := lookL f29_tab, call := f29_call }
noncomputable def f29_p8_mk (s22 : ByteArray) (n23 : Int) (n24 : Int) (es25 : List (List PC)) (full26 : Bool) (s27 : ByteArray) (n28 : Int) (n29 : Int) (es30 : List (List PC)) (full31 : Bool) (x : Int) : St := ⟨mkS 52 [(2, .w (.one (.ptr 0 0 0))), (3, .w (.one (.ptr 1 0 0))), (5, I x)], [.box [.p (pS s22), .p (pI n23), .p (pI n24), .p (.sl 5 es25 full26)], .box [.p (pS s27), .p (pI n28), .p (pI n29), .p (.sl 5 es30 full31)]]⟩
set_option maxRecDepth 100000 in
theorem f29_p8e0 (n_14 : Int) (s_15 : ByteArray) (n_16 : Int) (n_17 : Int) (es_18 : List (List PC)) (full_19 : Bool) (s_20 : ByteArray) (n_21 : Int) (n_22 : Int) (es_23 : List (List PC)) (full_24 : Bool) (N : St → Prop) (K : TExit → St → Prop) : (f29_p8b0 n_14 s_15 n_16 n_17 es_18 full_19 s_20 n_21 n_22 es_23 full_24 (fun z0 => N (f29_p8_mk s_15 n_16 n_17 es_18 full_19 s_20 n_21 n_22 es_23 full_24 z0)) (fun b0_25 => K .ret ⟨mkS 52 [(4, B b0_25)], []⟩) (fun (_ : Unit) => K (.exit 0) ⟨mkS 52 [], []⟩)) = execT f29_C (nthC (bodies (bodyOf Tryd.f29)) 0) (f29_p8_mk s_15 n_16 n_17 es_18 full_19 s_20 n_21 n_22 es_23 full_24 n_14) (loopK N (normK f29_C 8) fun e s => K e (normOut f29_C 8 e s)) := by kernel_rfl
set_option maxRecDepth 100000 in
theorem f29_p7e0 (s_26 : ByteArray) (n_27 : Int) (n_28 : Int) (es_29 : List (List PC)) (full_30 : Bool) (s_31 : ByteArray) (n_32 : Int) (n_33 : Int) (es_34 : List (List PC)) (full_35 : Bool) (K : TExit → St → Prop) : (f29_p7 s_26 n_27 n_28 es_29 full_30 s_31 n_32 n_33 es_34 full_35 (fun b0_36 => K .ret ⟨mkS 52 [(4, B b0_36)], []⟩)) = execT f29_C (nthC (tails (bodyOf Tryd.f29)) 1) ⟨mkS 52 [(2, .w (.one (.ptr 0 0 0))), (3, .w (.one (.ptr 1 0 0)))], [.box [.p (pS s_26), .p (pI n_27), .p (pI n_28), .p (.sl 5 es_29 full_30)], .box [.p (pS s_31), .p (pI n_32), .p (pI n_33), .p (.sl 5 es_34 full_35)]]⟩ (fun e s => K e (normOut f29_C 7 e s)) := by kernel_rfl
set_option maxHeartbeats 4000000 in
theorem f29_p8_ok : LoopOk f29_C (nthC (bodies (bodyOf Tryd.f29)) 0) := by
  refine LoopOk.of f29_p8L (by kernel_rfl) fun σ K h => ?_
  have hk : loopKey (nthC (bodies (bodyOf Tryd.f29)) 0) = 8 := by kernel_rfl
  rw [hk] at h ⊢
  generalize hs : normK f29_C 8 σ = s at h
  obtain ⟨tm, hp⟩ := s
  unfold f29_p8L at h
  dsimp only at h
  obtain ⟨xx, yy, rfl, rfl, h⟩ := getS_elim h
  refine iter_of (f29_p8_mk yy.1.1 yy.1.2.1 yy.1.2.2.1 yy.1.2.2.2.1.1 yy.1.2.2.2.1.2 yy.2.1.1 yy.2.1.2.1 yy.2.1.2.2.1 yy.2.1.2.2.2.1.1 yy.2.1.2.2.2.1.2) (fun x N h => ?_) rounds _ σ (hs.trans (by kernel_rfl)) (LoopP.run h)
  rw [← f29_p8e0 x yy.1.1 yy.1.2.1 yy.1.2.2.1 yy.1.2.2.2.1.1 yy.1.2.2.2.1.2 yy.2.1.1 yy.2.1.2.1 yy.2.1.2.2.1 yy.2.1.2.2.2.1.1 yy.2.1.2.2.2.1.2 N K]
  exact h
set_option maxHeartbeats 4000000 in
theorem f29_p7_ok : TailOk f29_C (nthC (tails (bodyOf Tryd.f29)) 1) := by
  refine TailOk.of f29_p7L (by kernel_rfl) fun σ K h => ?_
  have hk : joinKey (nthC (tails (bodyOf Tryd.f29)) 1) = 7 := by kernel_rfl
  rw [hk] at h ⊢
  generalize hs : normK f29_C 7 σ = s at h
  obtain ⟨tm, hp⟩ := s
  unfold f29_p7L at h
  dsimp only at h
  obtain ⟨xx, yy, rfl, rfl, h⟩ := getS_elim h
  have q : normK f29_C 7 σ = (⟨mkS 52 [(2, .w (.one (.ptr 0 0 0))), (3, .w (.one (.ptr 1 0 0)))], [.box [.p (pS yy.1.1), .p (pI yy.1.2.1), .p (pI yy.1.2.2.1), .p (.sl 5 yy.1.2.2.2.1.1 yy.1.2.2.2.1.2)], .box [.p (pS yy.2.1.1), .p (pI yy.2.1.2.1), .p (pI yy.2.1.2.2.1), .p (.sl 5 yy.2.1.2.2.2.1.1 yy.2.1.2.2.2.1.2)]]⟩ : St) := hs.trans (by kernel_rfl)
  rw [← hs, q, ← f29_p7e0 yy.1.1 yy.1.2.1 yy.1.2.2.1 yy.1.2.2.2.1.1 yy.1.2.2.2.1.2 yy.2.1.1 yy.2.1.2.1 yy.2.1.2.2.1 yy.2.1.2.2.2.1.1 yy.2.1.2.2.2.1.2 K]
  exact h
noncomputable def f29_G0 : List TV → List Entry → (TV → List Entry → Prop) → Prop := fun tm hp K => getS [.v (.pagg [.str, .int .i64, .int .i64, .sl 5]), .v (.pagg [.str, .int .i64, .int .i64, .sl 5])] [] tm hp fun (xx : ((ByteArray × (Int × (Int × ((List (List PC) × Bool) × Unit)))) × ((ByteArray × (Int × (Int × ((List (List PC) × Bool) × Unit)))) × Unit))) (yy : Unit) => f29 xx.1.1 xx.1.2.1 xx.1.2.2.1 xx.1.2.2.2.1.1 xx.1.2.2.2.1.2 xx.2.1.1 xx.2.1.2.1 xx.2.1.2.2.1 xx.2.1.2.2.2.1.1 xx.2.1.2.2.2.1.2 (fun b0_2 => K (B b0_2) [])
set_option maxRecDepth 100000 in
theorem f29_eq (s_37 : ByteArray) (n_38 : Int) (n_39 : Int) (es_40 : List (List PC)) (full_41 : Bool) (s_42 : ByteArray) (n_43 : Int) (n_44 : Int) (es_45 : List (List PC)) (full_46 : Bool) (K : TV → List Entry → Prop) : (f29_d s_37 n_38 n_39 es_40 full_41 s_42 n_43 n_44 es_45 full_46 (fun b0_2 => K (B b0_2) [])) = funcT f29_C Tryd.f29 [.w (.pagg [pS s_37, pI n_38, pI n_39, .sl 5 es_40 full_41]), .w (.pagg [pS s_42, pI n_43, pI n_44, .sl 5 es_45 full_46])] [] K := by kernel_rfl
set_option maxHeartbeats 4000000 in
theorem f29_ok0 : FnOk Tryd.prog glob 29 f29_G0 := by
  refine FnOk.of_text (C := f29_C) tab_ok.ok (Known.none) follows_ok (fn := Tryd.f29) (by kernel_rfl) (by kernel_rfl) (by kernel_rfl) (fun c hc => ?_) fun tm hp K h => ?_
  · have e : c = bodyOf Tryd.f29 := Option.some.inj (hc.symm.trans (by kernel_rfl))
    subst e
    exact ⟨LoopsOk.of [nthC (bodies (bodyOf Tryd.f29)) 0] (by kernel_rfl) ⟨f29_p8_ok, trivial⟩, TailsOk.of (tab := f29_tab) rfl [nthC (tails (bodyOf Tryd.f29)) 1] (by kernel_rfl) ⟨f29_p7_ok, trivial⟩⟩
  · unfold f29_G0 at h
    obtain ⟨xx, yy, rfl, rfl, h⟩ := getS_elim h
    have e := (f29_eq xx.1.1 xx.1.2.1 xx.1.2.2.1 xx.1.2.2.2.1.1 xx.1.2.2.2.1.2 xx.2.1.1 xx.2.1.2.1 xx.2.1.2.2.1 xx.2.1.2.2.2.1.1 xx.2.1.2.2.2.1.2 K).trans (show _ = funcT f29_C Tryd.f29 (mkR _ xx) (mkE _ yy) K by kernel_rfl)
    rw [← e]
    exact h.run
noncomputable abbrev f29_G := f29_G0
theorem f29_G_ok : FnOk Tryd.prog glob 29 f29_G := f29_ok0
end Go.Eng.N
set_option linter.unusedVariables false
set_option maxRecDepth 100000
open Go Go.Eng Go.Proofs
namespace Go.Eng.N
/-! ### f13: plenum/plenumref39.Small -/
noncomputable def f13_p8b0 (n11 : Int) (s12 : ByteArray) (n13 : Int) (n14 : Int) (es15 : List (List PC)) (full16 : Bool) (N0 : Int → Prop) (k0 : Bool → Prop) (k1 : Unit → Prop) : Prop := bB (decide (n11 < ((es15.length : Nat) : Int))) ((0 ≤ n11 ∧ n11 < ((es15.length : Nat) : Int)) ∧ oS (ext (List.getD es15 (Int.toNat n11) []) 0 1) fun s17 => bB (decide (((s17.size : Nat) : Int) > 60)) (k0 false) (N0 (w64 (n11 + 1)))) (k1 ())
noncomputable def f13_p8 (s12 : ByteArray) (n13 : Int) (n14 : Int) (es15 : List (List PC)) (full16 : Bool) (k0 : Bool → Prop) (k1 : Unit → Prop) : Int → Prop := LoopP fun x N => f13_p8b0 x s12 n13 n14 es15 full16 (fun n11 => N n11) k0 k1
noncomputable def f13_p7 (s6 : ByteArray) (n7 : Int) (n8 : Int) (es9 : List (List PC)) (full10 : Bool) (k0 : Bool → Prop) : Prop := f13_p8 s6 n7 n8 es9 full10 (fun b18 => k0 b18) (fun (_ : Unit) => k0 true) 0
noncomputable def f13_d (s1 : ByteArray) (n2 : Int) (n3 : Int) (es4 : List (List PC)) (full5 : Bool) (k0 : Bool → Prop) : Prop := bB (decide (((es4.length : Nat) : Int) > 12)) (k0 false) (bB (decide (((s1.size : Nat) : Int) > 60)) (k0 false) (f13_p7 s1 n2 n3 es4 full5 (fun b19 => k0 b19)))
structure f13 (s1 : ByteArray) (n2 : Int) (n3 : Int) (es4 : List (List PC)) (full5 : Bool) (k0 : Bool → Prop) : Prop where
  run : f13_d s1 n2 n3 es4 full5 k0
noncomputable def f13_p8L : Told := fun s K => match s with
  | ⟨tm, hp⟩ => getS [.skip 1, .v (.one (.ptr 0 0 0)), .skip 1, .v (.one (.int .i64)), .skip 25] [.box [.str, .int .i64, .int .i64, .sl 5]] tm hp fun (xx : (Unit × (Unit × (Unit × (Int × (Unit × Unit)))))) (yy : ((ByteArray × (Int × (Int × ((List (List PC) × Bool) × Unit)))) × Unit)) => f13_p8 yy.1.1 yy.1.2.1 yy.1.2.2.1 yy.1.2.2.2.1.1 yy.1.2.2.2.1.2 (fun b0_0 => K .ret ⟨mkS 29 [(2, B b0_0)], []⟩) (fun (_ : Unit) => K (.exit 0) ⟨mkS 29 [], []⟩) xx.2.2.2.1
noncomputable def f13_p7L : Told := fun s K => match s with
  | ⟨tm, hp⟩ => getS [.skip 1, .v (.one (.ptr 0 0 0)), .skip 27] [.box [.str, .int .i64, .int .i64, .sl 5]] tm hp fun (xx : (Unit × (Unit × (Unit × Unit)))) (yy : ((ByteArray × (Int × (Int × ((List (List PC) × Bool) × Unit)))) × Unit)) => f13_p7 yy.1.1 yy.1.2.1 yy.1.2.2.1 yy.1.2.2.2.1.1 yy.1.2.2.2.1.2 (fun b0_1 => K .ret ⟨mkS 29 [(2, B b0_1)], []⟩)
noncomputable def f13_tab : List (Nat × Told) := [(8, f13_p8L), (7, f13_p7L)]
noncomputable def f13_call : FuncId → List TV → List Entry → (TV → List Entry → Prop) → Prop := noCalls
noncomputable def f13_C : Ctx := { ty := tyOf tab, glob := glob, byRef := byRef, keep := fun k i => lookN [] (lookN [] ([(8, [(0, [1, 3]), (2, [2]), (3, [])]), (7, [(0, [1]), (1, [2]), (2, [2])])] : List (Nat × List (Nat × List Nat))) k) i, late := lookN [] ([] : List (Nat × List Nat)), nref := lookN [] ([] : List (Nat × List Nat)), nbox := lookN [] ([] : List (Nat × List (Nat × Nat))), take := [], rnil := false, m := 0, fz := true, loops := lookL f13_tab, call := f13_call }
noncomputable def f13_p8_mk (s12 : ByteArray) (n13 : Int) (n14 : Int) (es15 : List (List PC)) (full16 : Bool) (x : Int) : St := ⟨mkS 29 [(1, .w (.one (.ptr 0 0 0))), (3, I x)], [.box [.p (pS s12), .p (pI n13), .p (pI n14), .p (.sl 5 es15 full16)]]⟩
set_option maxRecDepth 100000 in
theorem f13_p8e0 (n_9 : Int) (s_10 : ByteArray) (n_11 : Int) (n_12 : Int) (es_13 : List (List PC)) (full_14 : Bool) (N : St → Prop) (K : TExit → St → Prop) : (f13_p8b0 n_9 s_10 n_11 n_12 es_13 full_14 (fun z0 => N (f13_p8_mk s_10 n_11 n_12 es_13 full_14 z0)) (fun b0_15 => K .ret ⟨mkS 29 [(2, B b0_15)], []⟩) (fun (_ : Unit) => K (.exit 0) ⟨mkS 29 [], []⟩)) = execT f13_C (nthC (bodies (bodyOf Tryd.f13)) 0) (f13_p8_mk s_10 n_11 n_12 es_13 full_14 n_9) (loopK N (normK f13_C 8) fun e s => K e (normOut f13_C 8 e s)) := by kernel_rfl
set_option maxRecDepth 100000 in
theorem f13_p7e0 (s_16 : ByteArray) (n_17 : Int) (n_18 : Int) (es_19 : List (List PC)) (full_20 : Bool) (K : TExit → St → Prop) : (f13_p7 s_16 n_17 n_18 es_19 full_20 (fun b0_21 => K .ret ⟨mkS 29 [(2, B b0_21)], []⟩)) = execT f13_C (nthC (tails (bodyOf Tryd.f13)) 1) ⟨mkS 29 [(1, .w (.one (.ptr 0 0 0)))], [.box [.p (pS s_16), .p (pI n_17), .p (pI n_18), .p (.sl 5 es_19 full_20)]]⟩ (fun e s => K e (normOut f13_C 7 e s)) := by kernel_rfl
set_option maxHeartbeats 4000000 in
theorem f13_p8_ok : LoopOk f13_C (nthC (bodies (bodyOf Tryd.f13)) 0) := by
  refine LoopOk.of f13_p8L (by kernel_rfl) fun σ K h => ?_
  have hk : loopKey (nthC (bodies (bodyOf Tryd.f13)) 0) = 8 := by kernel_rfl
  rw [hk] at h ⊢
  generalize hs : normK f13_C 8 σ = s at h
  obtain ⟨tm, hp⟩ := s
  unfold f13_p8L at h
  dsimp only at h
  obtain ⟨xx, yy, rfl, rfl, h⟩ := getS_elim h
  refine iter_of (f13_p8_mk yy.1.1 yy.1.2.1 yy.1.2.2.1 yy.1.2.2.2.1.1 yy.1.2.2.2.1.2) (fun x N h => ?_) rounds _ σ (hs.trans (by kernel_rfl)) (LoopP.run h)
  rw [← f13_p8e0 x yy.1.1 yy.1.2.1 yy.1.2.2.1 yy.1.2.2.2.1.1 yy.1.2.2.2.1.2 N K]
  exact h
set_option maxHeartbeats 4000000 in
theorem f13_p7_ok : TailOk f13_C (nthC (tails (bodyOf Tryd.f13)) 1) := by
  refine TailOk.of f13_p7L (by kernel_rfl) fun σ K h => ?_
  have hk : joinKey (nthC (tails (bodyOf Tryd.f13)) 1) = 7 := by kernel_rfl
  rw [hk] at h ⊢
  generalize hs : normK f13_C 7 σ = s at h
  obtain ⟨tm, hp⟩ := s
  unfold f13_p7L at h
  dsimp only at h
  obtain ⟨xx, yy, rfl, rfl, h⟩ := getS_elim h
  have q : normK f13_C 7 σ = (⟨mkS 29 [(1, .w (.one (.ptr 0 0 0)))], [.box [.p (pS yy.1.1), .p (pI yy.1.2.1), .p (pI yy.1.2.2.1), .p (.sl 5 yy.1.2.2.2.1.1 yy.1.2.2.2.1.2)]]⟩ : St) := hs.trans (by kernel_rfl)
  rw [← hs, q, ← f13_p7e0 yy.1.1 yy.1.2.1 yy.1.2.2.1 yy.1.2.2.2.1.1 yy.1.2.2.2.1.2 K]
  exact h
noncomputable def f13_G0 : List TV → List Entry → (TV → List Entry → Prop) → Prop := fun tm hp K => getS [.v (.pagg [.str, .int .i64, .int .i64, .sl 5])] [] tm hp fun (xx : ((ByteArray × (Int × (Int × ((List (List PC) × Bool) × Unit)))) × Unit)) (yy : Unit) => f13 xx.1.1 xx.1.2.1 xx.1.2.2.1 xx.1.2.2.2.1.1 xx.1.2.2.2.1.2 (fun b0_2 => K (B b0_2) [])
set_option maxRecDepth 100000 in
theorem f13_eq (s_22 : ByteArray) (n_23 : Int) (n_24 : Int) (es_25 : List (List PC)) (full_26 : Bool) (K : TV → List Entry → Prop) : (f13_d s_22 n_23 n_24 es_25 full_26 (fun b0_2 => K (B b0_2) [])) = funcT f13_C Tryd.f13 [.w (.pagg [pS s_22, pI n_23, pI n_24, .sl 5 es_25 full_26])] [] K := by kernel_rfl
set_option maxHeartbeats 4000000 in
theorem f13_ok0 : FnOk Tryd.prog glob 13 f13_G0 := by
  refine FnOk.of_text (C := f13_C) tab_ok.ok (Known.none) follows_ok (fn := Tryd.f13) (by kernel_rfl) (by kernel_rfl) (by kernel_rfl) (fun c hc => ?_) fun tm hp K h => ?_
  · have e : c = bodyOf Tryd.f13 := Option.some.inj (hc.symm.trans (by kernel_rfl))
    subst e
    exact ⟨LoopsOk.of [nthC (bodies (bodyOf Tryd.f13)) 0] (by kernel_rfl) ⟨f13_p8_ok, trivial⟩, TailsOk.of (tab := f13_tab) rfl [nthC (tails (bodyOf Tryd.f13)) 1] (by kernel_rfl) ⟨f13_p7_ok, trivial⟩⟩
  · unfold f13_G0 at h
    obtain ⟨xx, yy, rfl, rfl, h⟩ := getS_elim h
    have e := (f13_eq xx.1.1 xx.1.2.1 xx.1.2.2.1 xx.1.2.2.2.1.1 xx.1.2.2.2.1.2 K).trans (show _ = funcT f13_C Tryd.f13 (mkR _ xx) (mkE _ yy) K by kernel_rfl)
    rw [← e]
    exact h.run
noncomputable abbrev f13_G := f13_G0
theorem f13_G_ok : FnOk Tryd.prog glob 13 f13_G := f13_ok0
end Go.Eng.N
set_option linter.unusedVariables false
set_option maxRecDepth 100000
open Go Go.Eng Go.Proofs
namespace Go.Eng.N
/-! ### f23: plenum/plenumlaw39.list -/
noncomputable def f23_p8b0 (es5 : List (List PC)) (full6 : Bool) (es7 : List (List PC)) (full8 : Bool) (n9 : Int) (N0 : Int → Prop) (k0 : Bool → Prop) (k1 : Unit → Prop) : Prop := bB (decide (n9 < ((es5.length : Nat) : Int))) ((0 ≤ n9 ∧ n9 < ((es5.length : Nat) : Int)) ∧ oS (ext (List.getD es5 (Int.toNat n9) []) 0 1) fun s10 => (0 ≤ n9 ∧ n9 < ((es7.length : Nat) : Int)) ∧ oS (ext (List.getD es7 (Int.toNat n9) []) 0 1) fun s11 => bB (!(s10.toList == s11.toList)) (k0 false) (N0 (w64 (n9 + 1)))) (k1 ())
noncomputable def f23_p8 (es5 : List (List PC)) (full6 : Bool) (es7 : List (List PC)) (full8 : Bool) (k0 : Bool → Prop) (k1 : Unit → Prop) : Int → Prop := LoopP fun x N => f23_p8b0 es5 full6 es7 full8 x (fun n9 => N n9) k0 k1
noncomputable def f23_d (es1 : List (List PC)) (full2 : Bool) (es3 : List (List PC)) (full4 : Bool) (k0 : Bool → Prop) : Prop := bB (((es1.length : Nat) : Int) != ((es3.length : Nat) : Int)) (k0 false) (f23_p8 es1 full2 es3 full4 (fun b12 => k0 b12) (fun (_ : Unit) => k0 true) 0)
structure f23 (es1 : List (List PC)) (full2 : Bool) (es3 : List (List PC)) (full4 : Bool) (k0 : Bool → Prop) : Prop where
  run : f23_d es1 full2 es3 full4 k0
noncomputable def f23_p8L : Told := fun s K => match s with
  | ⟨tm, hp⟩ => getS [.v (.one (.sl 1)), .v (.one (.sl 1)), .skip 3, .v (.one (.int .i64)), .skip 20] [] tm hp fun (xx : ((List (List PC) × Bool) × ((List (List PC) × Bool) × (Unit × (Int × (Unit × Unit)))))) (yy : Unit) => f23_p8 xx.1.1 xx.1.2 xx.2.1.1 xx.2.1.2 (fun b0_0 => K .ret ⟨mkS 26 [(4, B b0_0)], []⟩) (fun (_ : Unit) => K (.exit 0) ⟨mkS 26 [], []⟩) xx.2.2.2.1
noncomputable def f23_tab : List (Nat × Told) := [(8, f23_p8L)]
noncomputable def f23_call : FuncId → List TV → List Entry → (TV → List Entry → Prop) → Prop := noCalls
noncomputable def f23_C : Ctx := { ty := tyOf tab, glob := glob, byRef := byRef, keep := fun k i => lookN [] (lookN [] ([(8, [(0, [0, 1, 5]), (2, [4]), (3, [])])] : List (Nat × List (Nat × List Nat))) k) i, late := lookN [] ([] : List (Nat × List Nat)), nref := lookN [] ([] : List (Nat × List Nat)), nbox := lookN [] ([] : List (Nat × List (Nat × Nat))), take := [], rnil := false, m := 0, fz := true, loops := lookL f23_tab, call := f23_call }
noncomputable def f23_p8_mk (es5 : List (List PC)) (full6 : Bool) (es7 : List (List PC)) (full8 : Bool) (x : Int) : St := ⟨mkS 26 [(0, .w (.one (.p (.sl 1 es5 full6)))), (1, .w (.one (.p (.sl 1 es7 full8)))), (5, I x)], []⟩
set_option maxRecDepth 100000 in
theorem f23_p8e0 (es_7 : List (List PC)) (full_8 : Bool) (es_9 : List (List PC)) (full_10 : Bool) (n_11 : Int) (N : St → Prop) (K : TExit → St → Prop) : (f23_p8b0 es_7 full_8 es_9 full_10 n_11 (fun z4 => N (f23_p8_mk es_7 full_8 es_9 full_10 z4)) (fun b0_12 => K .ret ⟨mkS 26 [(4, B b0_12)], []⟩) (fun (_ : Unit) => K (.exit 0) ⟨mkS 26 [], []⟩)) = execT f23_C (nthC (bodies (bodyOf Tryd.f23)) 0) (f23_p8_mk es_7 full_8 es_9 full_10 n_11) (loopK N (normK f23_C 8) fun e s => K e (normOut f23_C 8 e s)) := by kernel_rfl
set_option maxHeartbeats 4000000 in
theorem f23_p8_ok : LoopOk f23_C (nthC (bodies (bodyOf Tryd.f23)) 0) := by
  refine LoopOk.of f23_p8L (by kernel_rfl) fun σ K h => ?_
  have hk : loopKey (nthC (bodies (bodyOf Tryd.f23)) 0) = 8 := by kernel_rfl
  rw [hk] at h ⊢
  generalize hs : normK f23_C 8 σ = s at h
  obtain ⟨tm, hp⟩ := s
  unfold f23_p8L at h
  dsimp only at h
  obtain ⟨xx, yy, rfl, rfl, h⟩ := getS_elim h
  refine iter_of (f23_p8_mk xx.1.1 xx.1.2 xx.2.1.1 xx.2.1.2) (fun x N h => ?_) rounds _ σ (hs.trans (by kernel_rfl)) (LoopP.run h)
  rw [← f23_p8e0 xx.1.1 xx.1.2 xx.2.1.1 xx.2.1.2 x N K]
  exact h
noncomputable def f23_G0 : List TV → List Entry → (TV → List Entry → Prop) → Prop := fun tm hp K => getS [.v (.one (.sl 1)), .v (.one (.sl 1))] [] tm hp fun (xx : ((List (List PC) × Bool) × ((List (List PC) × Bool) × Unit))) (yy : Unit) => f23 xx.1.1 xx.1.2 xx.2.1.1 xx.2.1.2 (fun b0_1 => K (B b0_1) [])
set_option maxRecDepth 100000 in
theorem f23_eq (es_13 : List (List PC)) (full_14 : Bool) (es_15 : List (List PC)) (full_16 : Bool) (K : TV → List Entry → Prop) : (f23_d es_13 full_14 es_15 full_16 (fun b0_1 => K (B b0_1) [])) = funcT f23_C Tryd.f23 [.w (.one (.p (.sl 1 es_13 full_14))), .w (.one (.p (.sl 1 es_15 full_16)))] [] K := by kernel_rfl
set_option maxHeartbeats 4000000 in
theorem f23_ok0 : FnOk Tryd.prog glob 23 f23_G0 := by
  refine FnOk.of_text (C := f23_C) tab_ok.ok (Known.none) follows_ok (fn := Tryd.f23) (by kernel_rfl) (by kernel_rfl) (by kernel_rfl) (fun c hc => ?_) fun tm hp K h => ?_
  · have e : c = bodyOf Tryd.f23 := Option.some.inj (hc.symm.trans (by kernel_rfl))
    subst e
    exact ⟨LoopsOk.of [nthC (bodies (bodyOf Tryd.f23)) 0] (by kernel_rfl) ⟨f23_p8_ok, trivial⟩, TailsOk.of (tab := f23_tab) rfl [] (by kernel_rfl) trivial⟩
  · unfold f23_G0 at h
    obtain ⟨xx, yy, rfl, rfl, h⟩ := getS_elim h
    have e := (f23_eq xx.1.1 xx.1.2 xx.2.1.1 xx.2.1.2 K).trans (show _ = funcT f23_C Tryd.f23 (mkR _ xx) (mkE _ yy) K by kernel_rfl)
    rw [← e]
    exact h.run
noncomputable abbrev f23_G := f23_G0
theorem f23_G_ok : FnOk Tryd.prog glob 23 f23_G := f23_ok0
end Go.Eng.N
set_option linter.unusedVariables false
set_option maxRecDepth 100000
open Go Go.Eng Go.Proofs
namespace Go.Eng.N
/-! ### f24: plenum/plenumlaw39.same -/
noncomputable def f24_p8b0 (es5 : List (List PC)) (full6 : Bool) (es7 : List (List PC)) (full8 : Bool) (n9 : Int) (N0 : Int → Prop) (k0 : Bool → Prop) (k1 : Unit → Prop) : Prop := bB (decide (n9 < ((es5.length : Nat) : Int))) ((0 ≤ n9 ∧ n9 < ((es5.length : Nat) : Int)) ∧ oS (ext (List.getD es5 (Int.toNat n9) []) 0 1) fun s10 => (0 ≤ n9 ∧ n9 < ((es7.length : Nat) : Int)) ∧ oS (ext (List.getD es7 (Int.toNat n9) []) 0 1) fun s11 => bB (!(s10.toList == s11.toList)) (k0 false) ((0 ≤ n9 ∧ n9 < ((es5.length : Nat) : Int)) ∧ cI .i64 (ext (List.getD es5 (Int.toNat n9) []) 1 7) fun n13 r12 => cS r12 fun s15 r14 => cI .i64 r14 fun n17 r16 => cI .i64 r16 fun n19 r18 => cI .i64 r18 fun n21 r20 => cI .i64 r20 fun n23 r22 => cI .i64 r22 fun n25 r24 => nilC r24 <| (0 ≤ n9 ∧ n9 < ((es7.length : Nat) : Int)) ∧ cI .i64 (ext (List.getD es7 (Int.toNat n9) []) 1 7) fun n27 r26 => cS r26 fun s29 r28 => cI .i64 r28 fun n31 r30 => cI .i64 r30 fun n33 r32 => cI .i64 r32 fun n35 r34 => cI .i64 r34 fun n37 r36 => cI .i64 r36 fun n39 r38 => nilC r38 <| bB (!((n13 == n27) && ((s15 == s29) && ((n17 == n31) && ((n19 == n33) && ((n21 == n35) && ((n23 == n37) && ((n25 == n39) && true)))))))) (k0 false) ((0 ≤ n9 ∧ n9 < ((es5.length : Nat) : Int)) ∧ oI .i64 (ext (List.getD es5 (Int.toNat n9) []) 8 1) fun n40 => (0 ≤ n9 ∧ n9 < ((es7.length : Nat) : Int)) ∧ oI .i64 (ext (List.getD es7 (Int.toNat n9) []) 8 1) fun n41 => bB (n40 != n41) (k0 false) ((0 ≤ n9 ∧ n9 < ((es5.length : Nat) : Int)) ∧ oB (ext (List.getD es5 (Int.toNat n9) []) 9 1) fun b42 => (0 ≤ n9 ∧ n9 < ((es7.length : Nat) : Int)) ∧ oB (ext (List.getD es7 (Int.toNat n9) []) 9 1) fun b43 => bB (!(b42 == b43)) (k0 false) (N0 (w64 (n9 + 1))))))) (k1 ())
noncomputable def f24_p8 (es5 : List (List PC)) (full6 : Bool) (es7 : List (List PC)) (full8 : Bool) (k0 : Bool → Prop) (k1 : Unit → Prop) : Int → Prop := LoopP fun x N => f24_p8b0 es5 full6 es7 full8 x (fun n9 => N n9) k0 k1
noncomputable def f24_d (es1 : List (List PC)) (full2 : Bool) (es3 : List (List PC)) (full4 : Bool) (k0 : Bool → Prop) : Prop := bB (((es1.length : Nat) : Int) != ((es3.length : Nat) : Int)) (k0 false) (f24_p8 es1 full2 es3 full4 (fun b44 => k0 b44) (fun (_ : Unit) => k0 true) 0)
structure f24 (es1 : List (List PC)) (full2 : Bool) (es3 : List (List PC)) (full4 : Bool) (k0 : Bool → Prop) : Prop where
  run : f24_d es1 full2 es3 full4 k0
noncomputable def f24_p8L : Told := fun s K => match s with
  | ⟨tm, hp⟩ => getS [.v (.one (.sl 10)), .v (.one (.sl 10)), .skip 3, .v (.one (.int .i64)), .skip 61] [] tm hp fun (xx : ((List (List PC) × Bool) × ((List (List PC) × Bool) × (Unit × (Int × (Unit × Unit)))))) (yy : Unit) => f24_p8 xx.1.1 xx.1.2 xx.2.1.1 xx.2.1.2 (fun b0_0 => K .ret ⟨mkS 67 [(4, B b0_0)], []⟩) (fun (_ : Unit) => K (.exit 0) ⟨mkS 67 [], []⟩) xx.2.2.2.1
noncomputable def f24_tab : List (Nat × Told) := [(8, f24_p8L)]
noncomputable def f24_call : FuncId → List TV → List Entry → (TV → List Entry → Prop) → Prop := noCalls
noncomputable def f24_C : Ctx := { ty := tyOf tab, glob := glob, byRef := byRef, keep := fun k i => lookN [] (lookN [] ([(8, [(0, [0, 1, 5]), (2, [4]), (3, [])])] : List (Nat × List (Nat × List Nat))) k) i, late := lookN [] ([] : List (Nat × List Nat)), nref := lookN [] ([] : List (Nat × List Nat)), nbox := lookN [] ([] : List (Nat × List (Nat × Nat))), take := [], rnil := false, m := 0, fz := true, loops := lookL f24_tab, call := f24_call }
noncomputable def f24_p8_mk (es5 : List (List PC)) (full6 : Bool) (es7 : List (List PC)) (full8 : Bool) (x : Int) : St := ⟨mkS 67 [(0, .w (.one (.p (.sl 10 es5 full6)))), (1, .w (.one (.p (.sl 10 es7 full8)))), (5, I x)], []⟩
set_option maxRecDepth 100000 in
theorem f24_p8e0 (es_7 : List (List PC)) (full_8 : Bool) (es_9 : List (List PC)) (full_10 : Bool) (n_11 : Int) (N : St → Prop) (K : TExit → St → Prop) : (f24_p8b0 es_7 full_8 es_9 full_10 n_11 (fun z4 => N (f24_p8_mk es_7 full_8 es_9 full_10 z4)) (fun b0_12 => K .ret ⟨mkS 67 [(4, B b0_12)], []⟩) (fun (_ : Unit) => K (.exit 0) ⟨mkS 67 [], []⟩)) = execT f24_C (nthC (bodies (bodyOf Tryd.f24)) 0) (f24_p8_mk es_7 full_8 es_9 full_10 n_11) (loopK N (normK f24_C 8) fun e s => K e (normOut f24_C 8 e s)) := by kernel_rfl
set_option maxHeartbeats 4000000 in
theorem f24_p8_ok : LoopOk f24_C (nthC (bodies (bodyOf Tryd.f24)) 0) := by
  refine LoopOk.of f24_p8L (by kernel_rfl) fun σ K h => ?_
  have hk : loopKey (nthC (bodies (bodyOf Tryd.f24)) 0) = 8 := by kernel_rfl
  rw [hk] at h ⊢
  generalize hs : normK f24_C 8 σ = s at h
  obtain ⟨tm, hp⟩ := s
  unfold f24_p8L at h
  dsimp only at h
  obtain ⟨xx, yy, rfl, rfl, h⟩ := getS_elim h
  refine iter_of (f24_p8_mk xx.1.1 xx.1.2 xx.2.1.1 xx.2.1.2) (fun x N h => ?_) rounds _ σ (hs.trans (by kernel_rfl)) (LoopP.run h)
  rw [← f24_p8e0 xx.1.1 xx.1.2 xx.2.1.1 xx.2.1.2 x N K]
  exact h
noncomputable def f24_G0 : List TV → List Entry → (TV → List Entry → Prop) → Prop := fun tm hp K => getS [.v (.one (.sl 10)), .v (.one (.sl 10))] [] tm hp fun (xx : ((List (List PC) × Bool) × ((List (List PC) × Bool) × Unit))) (yy : Unit) => f24 xx.1.1 xx.1.2 xx.2.1.1 xx.2.1.2 (fun b0_1 => K (B b0_1) [])
set_option maxRecDepth 100000 in
theorem f24_eq (es_13 : List (List PC)) (full_14 : Bool) (es_15 : List (List PC)) (full_16 : Bool) (K : TV → List Entry → Prop) : (f24_d es_13 full_14 es_15 full_16 (fun b0_1 => K (B b0_1) [])) = funcT f24_C Tryd.f24 [.w (.one (.p (.sl 10 es_13 full_14))), .w (.one (.p (.sl 10 es_15 full_16)))] [] K := by kernel_rfl
set_option maxHeartbeats 4000000 in
theorem f24_ok0 : FnOk Tryd.prog glob 24 f24_G0 := by
  refine FnOk.of_text (C := f24_C) tab_ok.ok (Known.none) follows_ok (fn := Tryd.f24) (by kernel_rfl) (by kernel_rfl) (by kernel_rfl) (fun c hc => ?_) fun tm hp K h => ?_
  · have e : c = bodyOf Tryd.f24 := Option.some.inj (hc.symm.trans (by kernel_rfl))
    subst e
    exact ⟨LoopsOk.of [nthC (bodies (bodyOf Tryd.f24)) 0] (by kernel_rfl) ⟨f24_p8_ok, trivial⟩, TailsOk.of (tab := f24_tab) rfl [] (by kernel_rfl) trivial⟩
  · unfold f24_G0 at h
    obtain ⟨xx, yy, rfl, rfl, h⟩ := getS_elim h
    have e := (f24_eq xx.1.1 xx.1.2 xx.2.1.1 xx.2.1.2 K).trans (show _ = funcT f24_C Tryd.f24 (mkR _ xx) (mkE _ yy) K by kernel_rfl)
    rw [← e]
    exact h.run
noncomputable abbrev f24_G := f24_G0
theorem f24_G_ok : FnOk Tryd.prog glob 24 f24_G := f24_ok0
end Go.Eng.N
set_option linter.unusedVariables false
set_option maxRecDepth 100000
open Go Go.Eng Go.Proofs
namespace Go.Eng.N
/-! ### f37: plenum/notify.Line$1 -/
noncomputable def f37_d (n1 : Int) (k0 : Int → ByteArray → Int → Int → Prop) : Prop := k0 4 (⟨#[]⟩ : ByteArray) n1 0
structure f37 (n1 : Int) (k0 : Int → ByteArray → Int → Int → Prop) : Prop where
  run : f37_d n1 k0
noncomputable def f37_tab : List (Nat × Told) := []
noncomputable def f37_call : FuncId → List TV → List Entry → (TV → List Entry → Prop) → Prop := noCalls
noncomputable def f37_C : Ctx := { ty := tyOf tab, glob := glob, byRef := byRef, keep := fun k i => lookN [] (lookN [] ([] : List (Nat × List (Nat × List Nat))) k) i, late := lookN [] ([] : List (Nat × List Nat)), nref := lookN [] ([] : List (Nat × List Nat)), nbox := lookN [] ([] : List (Nat × List (Nat × Nat))), take := [], rnil := false, m := 0, fz := true, loops := lookL f37_tab, call := f37_call }
noncomputable def f37_G0 : List TV → List Entry → (TV → List Entry → Prop) → Prop := fun tm hp K => getS [.v (.one (.int .i64))] [] tm hp fun (xx : (Int × Unit)) (yy : Unit) => f37 xx.1 (fun n0_0 s0_1 n0_2 n0_3 => K (.w (.pagg [pI n0_0, pS s0_1, pI n0_2, pI n0_3])) [])
set_option maxRecDepth 100000 in
theorem f37_eq (n_4 : Int) (K : TV → List Entry → Prop) : (f37_d n_4 (fun n0_0 s0_1 n0_2 n0_3 => K (.w (.pagg [pI n0_0, pS s0_1, pI n0_2, pI n0_3])) [])) = funcT f37_C Tryd.f37 [I n_4] [] K := by kernel_rfl
set_option maxHeartbeats 4000000 in
theorem f37_ok0 : FnOk Tryd.prog glob 37 f37_G0 := by
  refine FnOk.of_text (C := f37_C) tab_ok.ok (Known.none) follows_ok (fn := Tryd.f37) (by kernel_rfl) (by kernel_rfl) (by kernel_rfl) (fun c hc => ?_) fun tm hp K h => ?_
  · have e : c = bodyOf Tryd.f37 := Option.some.inj (hc.symm.trans (by kernel_rfl))
    subst e
    exact ⟨LoopsOk.of [] (by kernel_rfl) trivial, TailsOk.of (tab := f37_tab) rfl [] (by kernel_rfl) trivial⟩
  · unfold f37_G0 at h
    obtain ⟨xx, yy, rfl, rfl, h⟩ := getS_elim h
    have e := (f37_eq xx.1 K).trans (show _ = funcT f37_C Tryd.f37 (mkR _ xx) (mkE _ yy) K by kernel_rfl)
    rw [← e]
    exact h.run
noncomputable abbrev f37_G := f37_G0
theorem f37_G_ok : FnOk Tryd.prog glob 37 f37_G := f37_ok0
end Go.Eng.N
set_option linter.unusedVariables false
set_option maxRecDepth 100000
open Go Go.Eng Go.Proofs
namespace Go.Eng.N
/-! ### f38: plenum/notify.word -/
noncomputable def f38_d (s1 : ByteArray) (k0 : Int → ByteArray → Int → Int → Prop) : Prop := k0 1 s1 0 0
structure f38 (s1 : ByteArray) (k0 : Int → ByteArray → Int → Int → Prop) : Prop where
  run : f38_d s1 k0
noncomputable def f38_tab : List (Nat × Told) := []
noncomputable def f38_call : FuncId → List TV → List Entry → (TV → List Entry → Prop) → Prop := noCalls
noncomputable def f38_C : Ctx := { ty := tyOf tab, glob := glob, byRef := byRef, keep := fun k i => lookN [] (lookN [] ([] : List (Nat × List (Nat × List Nat))) k) i, late := lookN [] ([] : List (Nat × List Nat)), nref := lookN [] ([] : List (Nat × List Nat)), nbox := lookN [] ([] : List (Nat × List (Nat × Nat))), take := [], rnil := false, m := 0, fz := true, loops := lookL f38_tab, call := f38_call }
noncomputable def f38_G0 : List TV → List Entry → (TV → List Entry → Prop) → Prop := fun tm hp K => getS [.v (.one (.str))] [] tm hp fun (xx : (ByteArray × Unit)) (yy : Unit) => f38 xx.1 (fun n0_0 s0_1 n0_2 n0_3 => K (.w (.pagg [pI n0_0, pS s0_1, pI n0_2, pI n0_3])) [])
set_option maxRecDepth 100000 in
theorem f38_eq (s_4 : ByteArray) (K : TV → List Entry → Prop) : (f38_d s_4 (fun n0_0 s0_1 n0_2 n0_3 => K (.w (.pagg [pI n0_0, pS s0_1, pI n0_2, pI n0_3])) [])) = funcT f38_C Tryd.f38 [S s_4] [] K := by kernel_rfl
set_option maxHeartbeats 4000000 in
theorem f38_ok0 : FnOk Tryd.prog glob 38 f38_G0 := by
  refine FnOk.of_text (C := f38_C) tab_ok.ok (Known.none) follows_ok (fn := Tryd.f38) (by kernel_rfl) (by kernel_rfl) (by kernel_rfl) (fun c hc => ?_) fun tm hp K h => ?_
  · have e : c = bodyOf Tryd.f38 := Option.some.inj (hc.symm.trans (by kernel_rfl))
    subst e
    exact ⟨LoopsOk.of [] (by kernel_rfl) trivial, TailsOk.of (tab := f38_tab) rfl [] (by kernel_rfl) trivial⟩
  · unfold f38_G0 at h
    obtain ⟨xx, yy, rfl, rfl, h⟩ := getS_elim h
    have e := (f38_eq xx.1 K).trans (show _ = funcT f38_C Tryd.f38 (mkR _ xx) (mkE _ yy) K by kernel_rfl)
    rw [← e]
    exact h.run
noncomputable abbrev f38_G := f38_G0
theorem f38_G_ok : FnOk Tryd.prog glob 38 f38_G := f38_ok0
end Go.Eng.N
set_option linter.unusedVariables false
set_option maxRecDepth 100000
open Go Go.Eng Go.Proofs
namespace Go.Eng.N
/-! ### f39: plenum/notify.spell -/
noncomputable def f39_p4b0 (i7 : Nat) (n8 : Nat) (n9 : Int) (es10 : List (List PC)) (full11 : Bool) (n12 : Int) (n13 : Int) (es14 : List (List PC)) (N0 : Nat → Nat → Int → (List (List PC)) → Prop) (k0 : Nat → Nat → (List (List PC)) → Prop) : Prop := bB (decide (n13 < n12)) ((0 ≤ n13 ∧ n13 < ((es10.length : Nat) : Int)) ∧ oS (ext (List.getD es10 (Int.toNat n13) []) 0 1) fun s15 => 0 ≤ n13 ∧ bB ((IntKind.wrap .i64 (BitVec.toNat (BitVec.ofInt 64 (Int.fdiv n9 (2 ^ (min (Int.toNat n13) 64))) &&& BitVec.ofInt 64 1))) == 1) (f38 s15 (fun n16 s17 n18 n19 => (i7 + n8) = es14.length ∧ (n8 + 1) * 40 ≤ 2 ^ 46 ∧ (n8 + 1) ≤ 2 ^ 46 ∧ N0 0 (n8 + 1) (w64 (n13 + 1)) (List.drop i7 es14 ++ [[pI n16, pS s17, pI n18, pI n19]]))) (N0 i7 n8 (w64 (n13 + 1)) es14)) (k0 i7 n8 es14)
noncomputable def f39_p4 (n9 : Int) (es10 : List (List PC)) (full11 : Bool) (n12 : Int) (k0 : Nat → Nat → (List (List PC)) → Prop) : Nat × Nat × Int × (List (List PC)) → Prop := LoopP fun x N => f39_p4b0 x.1 x.2.1 n9 es10 full11 n12 x.2.2.1 x.2.2.2 (fun i7 n8 n13 es14 => N (i7, n8, n13, es14)) k0
noncomputable def f39_d (i1 : Nat) (n2 : Nat) (es3 : List (List PC)) (full4 : Bool) (n5 : Int) (es6 : List (List PC)) (k0 : Nat → Nat → (List (List PC)) → Prop) : Prop := f39_p4 n5 es3 full4 ((es3.length : Nat) : Int) (fun i20 n21 es22 => k0 i20 n21 es22) (0, n2, 0, (List.drop i1 es6))
structure f39 (i1 : Nat) (n2 : Nat) (es3 : List (List PC)) (full4 : Bool) (n5 : Int) (es6 : List (List PC)) (k0 : Nat → Nat → (List (List PC)) → Prop) : Prop where
  run : f39_d i1 n2 es3 full4 n5 es6 k0
noncomputable def f39_p4L : Told := fun s K => match s with
  | ⟨tm, hp⟩ => getS [.v (.one (.ref 1)), .skip 1, .v (.one (.int .i64)), .skip 6, .v (.one (.sl 1)), .v (.one (.int .i64)), .v (.one (.int .i64)), .skip 16] [.gone, .vec 4 true] tm hp fun (xx : ((Nat × Nat) × (Unit × (Int × (Unit × ((List (List PC) × Bool) × (Int × (Int × (Unit × Unit))))))))) (yy : (Unit × ((List (List PC)) × Unit))) => f39_p4 xx.2.2.1 xx.2.2.2.2.1.1 xx.2.2.2.2.1.2 xx.2.2.2.2.2.1 (fun i0_0 n0_1 es0_2 => K (.exit 0) ⟨mkS 28 [(0, .w (.one (.ref 1 i0_0 n0_1)))], [.gone, .vec 4 es0_2 true]⟩) (xx.1.1, xx.1.2, xx.2.2.2.2.2.2.1, yy.2.1)
noncomputable def f39_tab : List (Nat × Told) := [(4, f39_p4L)]
noncomputable def f39_call : FuncId → List TV → List Entry → (TV → List Entry → Prop) → Prop := addCall 38 f38_G (noCalls)
noncomputable def f39_C : Ctx := { ty := tyOf tab, glob := glob, byRef := byRef, keep := fun k i => lookN [] (lookN [] ([(4, [(0, [0, 2, 9, 10, 11]), (2, [6]), (3, [0])])] : List (Nat × List (Nat × List Nat))) k) i, late := lookN [] ([] : List (Nat × List Nat)), nref := lookN [] ([] : List (Nat × List Nat)), nbox := lookN [] ([] : List (Nat × List (Nat × Nat))), take := [0], rnil := true, m := 1, fz := false, loops := lookL f39_tab, call := f39_call }
noncomputable def f39_p4_mk (n9 : Int) (es10 : List (List PC)) (full11 : Bool) (n12 : Int) (x : Nat × Nat × Int × (List (List PC))) : St := ⟨mkS 28 [(0, .w (.one (.ref 1 x.1 x.2.1))), (2, I n9), (9, .w (.one (.p (.sl 1 es10 full11)))), (10, I n12), (11, I x.2.2.1)], [.gone, .vec 4 x.2.2.2 true]⟩
set_option maxRecDepth 100000 in
theorem f39_p4e0 (i_14 : Nat) (n_15 : Nat) (n_16 : Int) (es_17 : List (List PC)) (full_18 : Bool) (n_19 : Int) (n_20 : Int) (es_21 : List (List PC)) (N : St → Prop) (K : TExit → St → Prop) : (f39_p4b0 i_14 n_15 n_16 es_17 full_18 n_19 n_20 es_21 (fun z0 z1 z6 z7 => N (f39_p4_mk n_16 es_17 full_18 n_19 (z0, z1, z6, z7))) (fun i0_22 n0_23 es0_24 => K (.exit 0) ⟨mkS 28 [(0, .w (.one (.ref 1 i0_22 n0_23)))], [.gone, .vec 4 es0_24 true]⟩)) = execT f39_C (nthC (bodies (bodyOf Tryd.f39)) 0) (f39_p4_mk n_16 es_17 full_18 n_19 (i_14, n_15, n_20, es_21)) (loopK N (normK f39_C 4) fun e s => K e (normOut f39_C 4 e s)) := by kernel_rfl
set_option maxHeartbeats 4000000 in
theorem f39_p4_ok : LoopOk f39_C (nthC (bodies (bodyOf Tryd.f39)) 0) := by
  refine LoopOk.of f39_p4L (by kernel_rfl) fun σ K h => ?_
  have hk : loopKey (nthC (bodies (bodyOf Tryd.f39)) 0) = 4 := by kernel_rfl
  rw [hk] at h ⊢
  generalize hs : normK f39_C 4 σ = s at h
  obtain ⟨tm, hp⟩ := s
  unfold f39_p4L at h
  dsimp only at h
  obtain ⟨xx, yy, rfl, rfl, h⟩ := getS_elim h
  refine iter_of (f39_p4_mk xx.2.2.1 xx.2.2.2.2.1.1 xx.2.2.2.2.1.2 xx.2.2.2.2.2.1) (fun x N h => ?_) rounds _ σ (hs.trans (by kernel_rfl)) (LoopP.run h)
  obtain ⟨y0, y1, y2, y3⟩ := x
  rw [← f39_p4e0 y0 y1 xx.2.2.1 xx.2.2.2.2.1.1 xx.2.2.2.2.1.2 xx.2.2.2.2.2.1 y2 y3 N K]
  exact h
noncomputable def f39_G0 : List TV → List Entry → (TV → List Entry → Prop) → Prop := fun tm hp K => getS [.v (.one (.ref 0)), .v (.one (.sl 1)), .v (.one (.int .i64))] [.vec 4 true] tm hp fun (xx : ((Nat × Nat) × ((List (List PC) × Bool) × (Int × Unit)))) (yy : ((List (List PC)) × Unit)) => f39 xx.1.1 xx.1.2 xx.2.1.1 xx.2.1.2 xx.2.2.1 yy.1 (fun i0_3 n0_4 es0_5 => K (.w (.one (.ref 1 i0_3 n0_4))) [.gone, .vec 4 es0_5 true])
set_option maxRecDepth 100000 in
theorem f39_eq (i_25 : Nat) (n_26 : Nat) (es_27 : List (List PC)) (full_28 : Bool) (n_29 : Int) (es_30 : List (List PC)) (K : TV → List Entry → Prop) : (f39_d i_25 n_26 es_27 full_28 n_29 es_30 (fun i0_3 n0_4 es0_5 => K (.w (.one (.ref 1 i0_3 n0_4))) [.gone, .vec 4 es0_5 true])) = funcT f39_C Tryd.f39 [.w (.one (.ref 0 i_25 n_26)), .w (.one (.p (.sl 1 es_27 full_28))), I n_29] [.vec 4 es_30 true] K := by kernel_rfl
set_option maxHeartbeats 4000000 in
theorem f39_ok0 : FnOk Tryd.prog glob 39 f39_G0 := by
  refine FnOk.of_text (C := f39_C) tab_ok.ok (Known.add f38_G_ok (Known.none)) follows_ok (fn := Tryd.f39) (by kernel_rfl) (by kernel_rfl) (by kernel_rfl) (fun c hc => ?_) fun tm hp K h => ?_
  · have e : c = bodyOf Tryd.f39 := Option.some.inj (hc.symm.trans (by kernel_rfl))
    subst e
    exact ⟨LoopsOk.of [nthC (bodies (bodyOf Tryd.f39)) 0] (by kernel_rfl) ⟨f39_p4_ok, trivial⟩, TailsOk.of (tab := f39_tab) rfl [] (by kernel_rfl) trivial⟩
  · unfold f39_G0 at h
    obtain ⟨xx, yy, rfl, rfl, h⟩ := getS_elim h
    have e := (f39_eq xx.1.1 xx.1.2 xx.2.1.1 xx.2.1.2 xx.2.2.1 yy.1 K).trans (show _ = funcT f39_C Tryd.f39 (mkR _ xx) (mkE _ yy) K by kernel_rfl)
    rw [← e]
    exact h.run
noncomputable abbrev f39_G := f39_G0
theorem f39_G_ok : FnOk Tryd.prog glob 39 f39_G := f39_ok0
end Go.Eng.N
set_option linter.unusedVariables false
set_option maxRecDepth 100000
open Go Go.Eng Go.Proofs
namespace Go.Eng.N
/-! ### f14: plenum/notify.Line -/
noncomputable def f14_p18b0 (es38 : List (List PC)) (full39 : Bool) (n40 : Int) (n41 : Int) (b42 : Bool) (n43 : Int) (i44 : Nat) (n45 : Nat) (b46 : Bool) (i47 : Nat) (n48 : Nat) (n49 : Int) (es50 : List (List PC)) (es51 : List (List PC)) (N0 : Int → Nat → Nat → (List (List PC)) → Prop) (k0 : Nat → Nat → (List (List PC)) → Prop) : Prop := bB (decide (n41 < n40)) ((0 ≤ n41 ∧ n41 < ((es38.length : Nat) : Int)) ∧ cS (ext (List.getD es38 (Int.toNat n41) []) 0 5) fun s53 r52 => cI .i64 r52 fun n55 r54 => cI .i64 r54 fun n57 r56 => cI .i64 r56 fun n59 r58 => cI .i64 r58 fun n61 r60 => nilC r60 <| f38 (⟨#[114, 101, 99, 105, 112, 105, 101, 110, 116]⟩ : ByteArray) (fun n62 s63 n64 n65 => f38 s53 (fun n66 s67 n68 n69 => f38 (⟨#[100, 97, 121, 115]⟩ : ByteArray) (fun n70 s71 n72 n73 => f39 0 3 [[pS (⟨#[109, 111, 110]⟩ : ByteArray)], [pS (⟨#[116, 117, 101]⟩ : ByteArray)], [pS (⟨#[119, 101, 100]⟩ : ByteArray)], [pS (⟨#[116, 104, 117]⟩ : ByteArray)], [pS (⟨#[102, 114, 105]⟩ : ByteArray)], [pS (⟨#[115, 97, 116]⟩ : ByteArray)], [pS (⟨#[115, 117, 110]⟩ : ByteArray)]] false n55 [[pI n62, pS s63, pI n64, pI n65], [pI n66, pS s67, pI n68, pI n69], [pI n70, pS s71, pI n72, pI n73]] (fun i74 n75 es76 => f38 (⟨#[102, 114, 111, 109]⟩ : ByteArray) (fun n77 s78 n79 n80 => f37 n57 (fun n81 s82 n83 n84 => f38 (⟨#[116, 111]⟩ : ByteArray) (fun n85 s86 n87 n88 => f37 n59 (fun n89 s90 n91 n92 => f38 (⟨#[102, 111, 114]⟩ : ByteArray) (fun n93 s94 n95 n96 => (i74 + n75) = es76.length ∧ (n75 + 5) * 40 ≤ 2 ^ 46 ∧ (n75 + 5) ≤ 2 ^ 46 ∧ f39 0 (n75 + 5) [[pS (⟨#[97, 108, 97, 114, 109]⟩ : ByteArray)], [pS (⟨#[102, 97, 117, 108, 116]⟩ : ByteArray)], [pS (⟨#[110, 111, 114, 109, 97, 108]⟩ : ByteArray)]] false n61 (List.drop i74 es76 ++ [[pI n77, pS s78, pI n79, pI n80], [pI n81, pS s82, pI n83, pI n84], [pI n85, pS s86, pI n87, pI n88], [pI n89, pS s90, pI n91, pI n92], [pI n93, pS s94, pI n95, pI n96]]) (fun i97 n98 es99 => (i47 + n48) = es51.length ∧ (n48 + 1) * 64 ≤ 2 ^ 46 ∧ (n48 + 1) ≤ 2 ^ 46 ∧ N0 (w64 (n41 + 1)) 0 (n48 + 1) (List.drop i47 es51 ++ [[.sl 4 (List.take n98 (List.drop i97 es99)) false, pB false, .sl 4 [] true, pI 0]])))))))))))) (k0 i47 n48 es51)
noncomputable def f14_p18 (es38 : List (List PC)) (full39 : Bool) (n40 : Int) (b42 : Bool) (n43 : Int) (i44 : Nat) (n45 : Nat) (b46 : Bool) (n49 : Int) (es50 : List (List PC)) (k0 : Nat → Nat → (List (List PC)) → Prop) : Int × Nat × Nat × (List (List PC)) → Prop := LoopP fun x N => f14_p18b0 es38 full39 n40 x.1 b42 n43 i44 n45 b46 x.2.1 x.2.2.1 n49 es50 x.2.2.2 (fun n41 i47 n48 es51 => N (n41, i47, n48, es51)) k0
noncomputable def f14_p17 (s26 : ByteArray) (n27 : Int) (n28 : Int) (es29 : List (List PC)) (full30 : Bool) (b31 : Bool) (n32 : Int) (i33 : Nat) (n34 : Nat) (b35 : Bool) (n36 : Int) (es37 : List (List PC)) (k0 : Int → Nat → Nat → (List (List PC)) → Prop) : Prop := f14_p18 es29 full30 ((es29.length : Nat) : Int) b31 n32 i33 n34 b35 n36 es37 (fun i100 n101 es102 => k0 0 i100 n101 es102) (0, 0, 0, [])
noncomputable def f14_d (s1 : ByteArray) (n2 : Int) (n3 : Int) (es4 : List (List PC)) (full5 : Bool) (k0 : (List (List PC)) → Bool → Bool → (List (List PC)) → Bool → Int → Int → Prop) : Prop := f16 s1 n2 n3 es4 full5 (fun n6 => bB (n6 != 0) (k0 [] true false [] true 0 n6) ((f38 (⟨#[99, 108, 97, 115, 115]⟩ : ByteArray) (fun n7 s8 n9 n10 => (f38 s1 (fun n11 s12 n13 n14 => (f38 (⟨#[112, 114, 105, 111, 114, 105, 116, 121]⟩ : ByteArray) (fun n15 s16 n17 n18 => (bB (n3 != 0) (f38 (⟨#[97, 99, 107]⟩ : ByteArray) (fun n19 s20 n21 n22 => 4 = 4 ∧ 5 * 40 ≤ 2 ^ 46 ∧ 5 ≤ 2 ^ 46 ∧ f39 0 5 [[pS (⟨#[97, 108, 97, 114, 109]⟩ : ByteArray)], [pS (⟨#[102, 97, 117, 108, 116]⟩ : ByteArray)], [pS (⟨#[110, 111, 114, 109, 97, 108]⟩ : ByteArray)]] false n3 [[pI n7, pS s8, pI n9, pI n10], [pI n11, pS s12, pI n13, pI n14], [pI n15, pS s16, pI n17, pI n18], [pI 2, pS (⟨#[]⟩ : ByteArray), pI (w64 (1000 * n2)), pI 0], [pI n19, pS s20, pI n21, pI n22]] (fun i23 n24 es25 => f14_p17 s1 n2 n3 es4 full5 false 0 i23 n24 (decide (((es4.length : Nat) : Int) > 0)) 0 es25 (fun n103 i104 n105 es106 => k0 (List.take n24 (List.drop i23 es25)) false (decide (((es4.length : Nat) : Int) > 0)) (List.take n105 (List.drop i104 es106)) false 0 n103)))) (f14_p17 s1 n2 n3 es4 full5 false 0 0 4 (decide (((es4.length : Nat) : Int) > 0)) 0 [[pI n7, pS s8, pI n9, pI n10], [pI n11, pS s12, pI n13, pI n14], [pI n15, pS s16, pI n17, pI n18], [pI 2, pS (⟨#[]⟩ : ByteArray), pI (w64 (1000 * n2)), pI 0]] (fun n107 i108 n109 es110 => k0 (List.take 4 (List.drop 0 [[pI n7, pS s8, pI n9, pI n10], [pI n11, pS s12, pI n13, pI n14], [pI n15, pS s16, pI n17, pI n18], [pI 2, pS (⟨#[]⟩ : ByteArray), pI (w64 (1000 * n2)), pI 0]])) false (decide (((es4.length : Nat) : Int) > 0)) (List.take n109 (List.drop i108 es110)) false 0 n107))) ∧ (bB (n3 != 0) (f38 (⟨#[97, 99, 107]⟩ : ByteArray) (fun n111 s112 n113 n114 => 4 = 4 ∧ 5 * 40 ≤ 2 ^ 46 ∧ 5 ≤ 2 ^ 46 ∧ f39 0 5 [[pS (⟨#[97, 108, 97, 114, 109]⟩ : ByteArray)], [pS (⟨#[102, 97, 117, 108, 116]⟩ : ByteArray)], [pS (⟨#[110, 111, 114, 109, 97, 108]⟩ : ByteArray)]] false n3 [[pI n7, pS s8, pI n9, pI n10], [pI n11, pS s12, pI n13, pI n14], [pI n15, pS s16, pI n17, pI n18], [pI 2, pS (⟨#[]⟩ : ByteArray), pI (w64 (1000 * n2)), pI 0], [pI n111, pS s112, pI n113, pI n114]] (fun i115 n116 es117 => f14_p17 s1 n2 n3 es4 full5 false 0 i115 n116 (decide (((es4.length : Nat) : Int) > 0)) 0 es117 (fun n118 i119 n120 es121 => k0 (List.take n116 (List.drop i115 es117)) false (decide (((es4.length : Nat) : Int) > 0)) (List.take n120 (List.drop i119 es121)) false 0 n118)))) (f14_p17 s1 n2 n3 es4 full5 false 0 0 4 (decide (((es4.length : Nat) : Int) > 0)) 0 [[pI n7, pS s8, pI n9, pI n10], [pI n11, pS s12, pI n13, pI n14], [pI n15, pS s16, pI n17, pI n18], [pI 2, pS (⟨#[]⟩ : ByteArray), pI (w64 (1000 * n2)), pI 0]] (fun n122 i123 n124 es125 => k0 (List.take 4 (List.drop 0 [[pI n7, pS s8, pI n9, pI n10], [pI n11, pS s12, pI n13, pI n14], [pI n15, pS s16, pI n17, pI n18], [pI 2, pS (⟨#[]⟩ : ByteArray), pI (w64 (1000 * n2)), pI 0]])) false (decide (((es4.length : Nat) : Int) > 0)) (List.take n124 (List.drop i123 es125)) false 0 n122))))) ∧ (f38 (⟨#[112, 114, 105, 111, 114, 105, 116, 121]⟩ : ByteArray) (fun n126 s127 n128 n129 => bB (n3 != 0) (f38 (⟨#[97, 99, 107]⟩ : ByteArray) (fun n130 s131 n132 n133 => 4 = 4 ∧ 5 * 40 ≤ 2 ^ 46 ∧ 5 ≤ 2 ^ 46 ∧ f39 0 5 [[pS (⟨#[97, 108, 97, 114, 109]⟩ : ByteArray)], [pS (⟨#[102, 97, 117, 108, 116]⟩ : ByteArray)], [pS (⟨#[110, 111, 114, 109, 97, 108]⟩ : ByteArray)]] false n3 [[pI n7, pS s8, pI n9, pI n10], [pI n11, pS s12, pI n13, pI n14], [pI n126, pS s127, pI n128, pI n129], [pI 2, pS (⟨#[]⟩ : ByteArray), pI (w64 (1000 * n2)), pI 0], [pI n130, pS s131, pI n132, pI n133]] (fun i134 n135 es136 => f14_p17 s1 n2 n3 es4 full5 false 0 i134 n135 (decide (((es4.length : Nat) : Int) > 0)) 0 es136 (fun n137 i138 n139 es140 => k0 (List.take n135 (List.drop i134 es136)) false (decide (((es4.length : Nat) : Int) > 0)) (List.take n139 (List.drop i138 es140)) false 0 n137)))) (f14_p17 s1 n2 n3 es4 full5 false 0 0 4 (decide (((es4.length : Nat) : Int) > 0)) 0 [[pI n7, pS s8, pI n9, pI n10], [pI n11, pS s12, pI n13, pI n14], [pI n126, pS s127, pI n128, pI n129], [pI 2, pS (⟨#[]⟩ : ByteArray), pI (w64 (1000 * n2)), pI 0]] (fun n141 i142 n143 es144 => k0 (List.take 4 (List.drop 0 [[pI n7, pS s8, pI n9, pI n10], [pI n11, pS s12, pI n13, pI n14], [pI n126, pS s127, pI n128, pI n129], [pI 2, pS (⟨#[]⟩ : ByteArray), pI (w64 (1000 * n2)), pI 0]])) false (decide (((es4.length : Nat) : Int) > 0)) (List.take n143 (List.drop i142 es144)) false 0 n141)))))) ∧ (f38 s1 (fun n145 s146 n147 n148 => f38 (⟨#[112, 114, 105, 111, 114, 105, 116, 121]⟩ : ByteArray) (fun n149 s150 n151 n152 => bB (n3 != 0) (f38 (⟨#[97, 99, 107]⟩ : ByteArray) (fun n153 s154 n155 n156 => 4 = 4 ∧ 5 * 40 ≤ 2 ^ 46 ∧ 5 ≤ 2 ^ 46 ∧ f39 0 5 [[pS (⟨#[97, 108, 97, 114, 109]⟩ : ByteArray)], [pS (⟨#[102, 97, 117, 108, 116]⟩ : ByteArray)], [pS (⟨#[110, 111, 114, 109, 97, 108]⟩ : ByteArray)]] false n3 [[pI n7, pS s8, pI n9, pI n10], [pI n145, pS s146, pI n147, pI n148], [pI n149, pS s150, pI n151, pI n152], [pI 2, pS (⟨#[]⟩ : ByteArray), pI (w64 (1000 * n2)), pI 0], [pI n153, pS s154, pI n155, pI n156]] (fun i157 n158 es159 => f14_p17 s1 n2 n3 es4 full5 false 0 i157 n158 (decide (((es4.length : Nat) : Int) > 0)) 0 es159 (fun n160 i161 n162 es163 => k0 (List.take n158 (List.drop i157 es159)) false (decide (((es4.length : Nat) : Int) > 0)) (List.take n162 (List.drop i161 es163)) false 0 n160)))) (f14_p17 s1 n2 n3 es4 full5 false 0 0 4 (decide (((es4.length : Nat) : Int) > 0)) 0 [[pI n7, pS s8, pI n9, pI n10], [pI n145, pS s146, pI n147, pI n148], [pI n149, pS s150, pI n151, pI n152], [pI 2, pS (⟨#[]⟩ : ByteArray), pI (w64 (1000 * n2)), pI 0]] (fun n164 i165 n166 es167 => k0 (List.take 4 (List.drop 0 [[pI n7, pS s8, pI n9, pI n10], [pI n145, pS s146, pI n147, pI n148], [pI n149, pS s150, pI n151, pI n152], [pI 2, pS (⟨#[]⟩ : ByteArray), pI (w64 (1000 * n2)), pI 0]])) false (decide (((es4.length : Nat) : Int) > 0)) (List.take n166 (List.drop i165 es167)) false 0 n164))))))) ∧ (f38 (⟨#[99, 108, 97, 115, 115]⟩ : ByteArray) (fun n168 s169 n170 n171 => f38 s1 (fun n172 s173 n174 n175 => f38 (⟨#[112, 114, 105, 111, 114, 105, 116, 121]⟩ : ByteArray) (fun n176 s177 n178 n179 => bB (n3 != 0) (f38 (⟨#[97, 99, 107]⟩ : ByteArray) (fun n180 s181 n182 n183 => 4 = 4 ∧ 5 * 40 ≤ 2 ^ 46 ∧ 5 ≤ 2 ^ 46 ∧ f39 0 5 [[pS (⟨#[97, 108, 97, 114, 109]⟩ : ByteArray)], [pS (⟨#[102, 97, 117, 108, 116]⟩ : ByteArray)], [pS (⟨#[110, 111, 114, 109, 97, 108]⟩ : ByteArray)]] false n3 [[pI n168, pS s169, pI n170, pI n171], [pI n172, pS s173, pI n174, pI n175], [pI n176, pS s177, pI n178, pI n179], [pI 2, pS (⟨#[]⟩ : ByteArray), pI (w64 (1000 * n2)), pI 0], [pI n180, pS s181, pI n182, pI n183]] (fun i184 n185 es186 => f14_p17 s1 n2 n3 es4 full5 false 0 i184 n185 (decide (((es4.length : Nat) : Int) > 0)) 0 es186 (fun n187 i188 n189 es190 => k0 (List.take n185 (List.drop i184 es186)) false (decide (((es4.length : Nat) : Int) > 0)) (List.take n189 (List.drop i188 es190)) false 0 n187)))) (f14_p17 s1 n2 n3 es4 full5 false 0 0 4 (decide (((es4.length : Nat) : Int) > 0)) 0 [[pI n168, pS s169, pI n170, pI n171], [pI n172, pS s173, pI n174, pI n175], [pI n176, pS s177, pI n178, pI n179], [pI 2, pS (⟨#[]⟩ : ByteArray), pI (w64 (1000 * n2)), pI 0]] (fun n191 i192 n193 es194 => k0 (List.take 4 (List.drop 0 [[pI n168, pS s169, pI n170, pI n171], [pI n172, pS s173, pI n174, pI n175], [pI n176, pS s177, pI n178, pI n179], [pI 2, pS (⟨#[]⟩ : ByteArray), pI (w64 (1000 * n2)), pI 0]])) false (decide (((es4.length : Nat) : Int) > 0)) (List.take n193 (List.drop i192 es194)) false 0 n191))))))))
structure f14 (s1 : ByteArray) (n2 : Int) (n3 : Int) (es4 : List (List PC)) (full5 : Bool) (k0 : (List (List PC)) → Bool → Bool → (List (List PC)) → Bool → Int → Int → Prop) : Prop where
  run : f14_d s1 n2 n3 es4 full5 k0
noncomputable def f14_p18L : Told := fun s K => match s with
  | ⟨tm, hp⟩ => getS [.skip 2, .v (.one (.ptr 0 0 0)), .skip 2, .v (.one (.fn 37)), .v (.one (.ptr 1 0 0)), .skip 38, .v (.one (.sl 5)), .v (.one (.int .i64)), .v (.one (.int .i64)), .skip 40] [.box [.nil 4, .bool, .nil 4, .int .i64], .box [.ref 2, .bool, .ref 3, .int .i64], .vec 4 true, .vec 4 true] tm hp fun (xx : (Unit × (Unit × (Unit × (Unit × (Unit × (Unit × ((List (List PC) × Bool) × (Int × (Int × (Unit × Unit))))))))))) (yy : ((Unit × (Bool × (Unit × (Int × Unit)))) × (((Nat × Nat) × (Bool × ((Nat × Nat) × (Int × Unit)))) × ((List (List PC)) × ((List (List PC)) × Unit))))) => f14_p18 xx.2.2.2.2.2.2.1.1 xx.2.2.2.2.2.2.1.2 xx.2.2.2.2.2.2.2.1 yy.1.2.1 yy.1.2.2.2.1 yy.2.1.1.1 yy.2.1.1.2 yy.2.1.2.1 yy.2.1.2.2.2.1 yy.2.2.1 (fun i0_0 n0_1 es0_2 => K (.exit 0) ⟨mkS 88 [(2, .w (.one (.ptr 0 0 0))), (6, .w (.one (.ptr 1 0 0)))], [.box [.p (.sl 4 [] true), .p (pB yy.1.2.1), .p (.sl 4 [] true), .p (pI yy.1.2.2.2.1)], .box [.ref 2 yy.2.1.1.1 yy.2.1.1.2, .p (pB yy.2.1.2.1), .ref 3 i0_0 n0_1, .p (pI yy.2.1.2.2.2.1)], .vec 4 yy.2.2.1 true, .vec 4 es0_2 true]⟩) (xx.2.2.2.2.2.2.2.2.1, yy.2.1.2.2.1.1, yy.2.1.2.2.1.2, yy.2.2.2.1)
noncomputable def f14_p17L : Told := fun s K => match s with
  | ⟨tm, hp⟩ => getS [.skip 1, .v (.one (.ptr 0 0 0)), .v (.one (.ptr 1 0 0)), .skip 2, .v (.one (.fn 37)), .v (.one (.ptr 2 0 0)), .skip 81] [.box [.str, .int .i64, .int .i64, .sl 5], .box [.nil 4, .bool, .nil 4, .int .i64], .box [.ref 3, .bool, .nil 4, .int .i64], .vec 4 true] tm hp fun (xx : (Unit × (Unit × (Unit × (Unit × (Unit × (Unit × (Unit × Unit)))))))) (yy : ((ByteArray × (Int × (Int × ((List (List PC) × Bool) × Unit)))) × ((Unit × (Bool × (Unit × (Int × Unit)))) × (((Nat × Nat) × (Bool × (Unit × (Int × Unit)))) × ((List (List PC)) × Unit))))) => f14_p17 yy.1.1 yy.1.2.1 yy.1.2.2.1 yy.1.2.2.2.1.1 yy.1.2.2.2.1.2 yy.2.1.2.1 yy.2.1.2.2.2.1 yy.2.2.1.1.1 yy.2.2.1.1.2 yy.2.2.1.2.1 yy.2.2.1.2.2.2.1 yy.2.2.2.1 (fun n0_3 i0_4 n0_5 es0_6 => K .ret ⟨mkS 88 [(2, .w (.one (.ptr 0 0 0))), (3, I n0_3)], [.box [.ref 1 yy.2.2.1.1.1 yy.2.2.1.1.2, .p (pB yy.2.2.1.2.1), .ref 2 i0_4 n0_5, .p (pI yy.2.2.1.2.2.2.1)], .vec 4 yy.2.2.2.1 true, .vec 4 es0_6 true]⟩)
noncomputable def f14_tab : List (Nat × Told) := [(18, f14_p18L), (17, f14_p17L)]
noncomputable def f14_call : FuncId → List TV → List Entry → (TV → List Entry → Prop) → Prop := addCall 39 f39_G (addCall 38 f38_G (addCall 37 f37_G (addCall 16 f16_G (noCalls))))
noncomputable def f14_C : Ctx := { ty := tyOf tab, glob := glob, byRef := byRef, keep := fun k i => lookN [] (lookN [] ([(18, [(0, [2, 5, 6, 45, 46, 47]), (2, [2, 3]), (3, [2, 6])]), (17, [(0, [1, 2, 5, 6]), (1, [2, 3]), (2, [2, 3])])] : List (Nat × List (Nat × List Nat))) k) i, late := lookN [] ([] : List (Nat × List Nat)), nref := lookN [] ([] : List (Nat × List Nat)), nbox := lookN [] ([(18, [(1, 2)])] : List (Nat × List (Nat × Nat))), take := [], rnil := false, m := 0, fz := true, loops := lookL f14_tab, call := f14_call }
noncomputable def f14_p18_mk (es38 : List (List PC)) (full39 : Bool) (n40 : Int) (b42 : Bool) (n43 : Int) (i44 : Nat) (n45 : Nat) (b46 : Bool) (n49 : Int) (es50 : List (List PC)) (x : Int × Nat × Nat × (List (List PC))) : St := ⟨mkS 88 [(2, .w (.one (.ptr 0 0 0))), (5, .w (.one (.p (.c (.func (.func 37) #[] #[]))))), (6, .w (.one (.ptr 1 0 0))), (45, .w (.one (.p (.sl 5 es38 full39)))), (46, I n40), (47, I x.1)], [.box [.p (.sl 4 [] true), .p (pB b42), .p (.sl 4 [] true), .p (pI n43)], .box [.ref 2 i44 n45, .p (pB b46), .ref 3 x.2.1 x.2.2.1, .p (pI n49)], .vec 4 es50 true, .vec 4 x.2.2.2 true]⟩
set_option maxRecDepth 100000 in
theorem f14_p18e0 (es_28 : List (List PC)) (full_29 : Bool) (n_30 : Int) (n_31 : Int) (b_32 : Bool) (n_33 : Int) (i_34 : Nat) (n_35 : Nat) (b_36 : Bool) (i_37 : Nat) (n_38 : Nat) (n_39 : Int) (es_40 : List (List PC)) (es_41 : List (List PC)) (N : St → Prop) (K : TExit → St → Prop) : (f14_p18b0 es_28 full_29 n_30 n_31 b_32 n_33 i_34 n_35 b_36 i_37 n_38 n_39 es_40 es_41 (fun z3 z9 z10 z13 => N (f14_p18_mk es_28 full_29 n_30 b_32 n_33 i_34 n_35 b_36 n_39 es_40 (z3, z9, z10, z13))) (fun i0_42 n0_43 es0_44 => K (.exit 0) ⟨mkS 88 [(2, .w (.one (.ptr 0 0 0))), (6, .w (.one (.ptr 1 0 0)))], [.box [.p (.sl 4 [] true), .p (pB b_32), .p (.sl 4 [] true), .p (pI n_33)], .box [.ref 2 i_34 n_35, .p (pB b_36), .ref 3 i0_42 n0_43, .p (pI n_39)], .vec 4 es_40 true, .vec 4 es0_44 true]⟩)) = execT f14_C (nthC (bodies (bodyOf Tryd.f14)) 0) (f14_p18_mk es_28 full_29 n_30 b_32 n_33 i_34 n_35 b_36 n_39 es_40 (n_31, i_37, n_38, es_41)) (loopK N (normK f14_C 18) fun e s => K e (normOut f14_C 18 e s)) := by kernel_rfl
set_option maxRecDepth 100000 in
theorem f14_p17e0 (s_45 : ByteArray) (n_46 : Int) (n_47 : Int) (es_48 : List (List PC)) (full_49 : Bool) (b_50 : Bool) (n_51 : Int) (i_52 : Nat) (n_53 : Nat) (b_54 : Bool) (n_55 : Int) (es_56 : List (List PC)) (K : TExit → St → Prop) : (f14_p17 s_45 n_46 n_47 es_48 full_49 b_50 n_51 i_52 n_53 b_54 n_55 es_56 (fun n0_57 i0_58 n0_59 es0_60 => K .ret ⟨mkS 88 [(2, .w (.one (.ptr 0 0 0))), (3, I n0_57)], [.box [.ref 1 i_52 n_53, .p (pB b_54), .ref 2 i0_58 n0_59, .p (pI n_55)], .vec 4 es_56 true, .vec 4 es0_60 true]⟩)) = execT f14_C (nthC (tails (bodyOf Tryd.f14)) 7) ⟨mkS 88 [(1, .w (.one (.ptr 0 0 0))), (2, .w (.one (.ptr 1 0 0))), (5, .w (.one (.p (.c (.func (.func 37) #[] #[]))))), (6, .w (.one (.ptr 2 0 0)))], [.box [.p (pS s_45), .p (pI n_46), .p (pI n_47), .p (.sl 5 es_48 full_49)], .box [.p (.sl 4 [] true), .p (pB b_50), .p (.sl 4 [] true), .p (pI n_51)], .box [.ref 3 i_52 n_53, .p (pB b_54), .p (.sl 4 [] true), .p (pI n_55)], .vec 4 es_56 true]⟩ (fun e s => K e (normOut f14_C 17 e s)) := by kernel_rfl
set_option maxHeartbeats 4000000 in
theorem f14_p18_ok : LoopOk f14_C (nthC (bodies (bodyOf Tryd.f14)) 0) := by
  refine LoopOk.of f14_p18L (by kernel_rfl) fun σ K h => ?_
  have hk : loopKey (nthC (bodies (bodyOf Tryd.f14)) 0) = 18 := by kernel_rfl
  rw [hk] at h ⊢
  generalize hs : normK f14_C 18 σ = s at h
  obtain ⟨tm, hp⟩ := s
  unfold f14_p18L at h
  dsimp only at h
  obtain ⟨xx, yy, rfl, rfl, h⟩ := getS_elim h
  refine iter_of (f14_p18_mk xx.2.2.2.2.2.2.1.1 xx.2.2.2.2.2.2.1.2 xx.2.2.2.2.2.2.2.1 yy.1.2.1 yy.1.2.2.2.1 yy.2.1.1.1 yy.2.1.1.2 yy.2.1.2.1 yy.2.1.2.2.2.1 yy.2.2.1) (fun x N h => ?_) rounds _ σ (hs.trans (by kernel_rfl)) (LoopP.run h)
  obtain ⟨y0, y1, y2, y3⟩ := x
  rw [← f14_p18e0 xx.2.2.2.2.2.2.1.1 xx.2.2.2.2.2.2.1.2 xx.2.2.2.2.2.2.2.1 y0 yy.1.2.1 yy.1.2.2.2.1 yy.2.1.1.1 yy.2.1.1.2 yy.2.1.2.1 y1 y2 yy.2.1.2.2.2.1 yy.2.2.1 y3 N K]
  exact h
set_option maxHeartbeats 4000000 in
theorem f14_p17_ok : TailOk f14_C (nthC (tails (bodyOf Tryd.f14)) 7) := by
  refine TailOk.of f14_p17L (by kernel_rfl) fun σ K h => ?_
  have hk : joinKey (nthC (tails (bodyOf Tryd.f14)) 7) = 17 := by kernel_rfl
  rw [hk] at h ⊢
  generalize hs : normK f14_C 17 σ = s at h
  obtain ⟨tm, hp⟩ := s
  unfold f14_p17L at h
  dsimp only at h
  obtain ⟨xx, yy, rfl, rfl, h⟩ := getS_elim h
  have q : normK f14_C 17 σ = (⟨mkS 88 [(1, .w (.one (.ptr 0 0 0))), (2, .w (.one (.ptr 1 0 0))), (5, .w (.one (.p (.c (.func (.func 37) #[] #[]))))), (6, .w (.one (.ptr 2 0 0)))], [.box [.p (pS yy.1.1), .p (pI yy.1.2.1), .p (pI yy.1.2.2.1), .p (.sl 5 yy.1.2.2.2.1.1 yy.1.2.2.2.1.2)], .box [.p (.sl 4 [] true), .p (pB yy.2.1.2.1), .p (.sl 4 [] true), .p (pI yy.2.1.2.2.2.1)], .box [.ref 3 yy.2.2.1.1.1 yy.2.2.1.1.2, .p (pB yy.2.2.1.2.1), .p (.sl 4 [] true), .p (pI yy.2.2.1.2.2.2.1)], .vec 4 yy.2.2.2.1 true]⟩ : St) := hs.trans (by kernel_rfl)
  rw [← hs, q, ← f14_p17e0 yy.1.1 yy.1.2.1 yy.1.2.2.1 yy.1.2.2.2.1.1 yy.1.2.2.2.1.2 yy.2.1.2.1 yy.2.1.2.2.2.1 yy.2.2.1.1.1 yy.2.2.1.1.2 yy.2.2.1.2.1 yy.2.2.1.2.2.2.1 yy.2.2.2.1 K]
  exact h
noncomputable def f14_G0 : List TV → List Entry → (TV → List Entry → Prop) → Prop := fun tm hp K => getS [.v (.pagg [.str, .int .i64, .int .i64, .sl 5])] [] tm hp fun (xx : ((ByteArray × (Int × (Int × ((List (List PC) × Bool) × Unit)))) × Unit)) (yy : Unit) => f14 xx.1.1 xx.1.2.1 xx.1.2.2.1 xx.1.2.2.2.1.1 xx.1.2.2.2.1.2 (fun es0_7 full0_8 b0_9 es0_10 full0_11 n0_12 n0_13 => K (.tup [.pagg [.sl 4 es0_7 full0_8, pB b0_9, .sl 4 es0_10 full0_11, pI n0_12], .one (.p (pI n0_13))]) [])
set_option maxRecDepth 100000 in
theorem f14_eq (s_61 : ByteArray) (n_62 : Int) (n_63 : Int) (es_64 : List (List PC)) (full_65 : Bool) (K : TV → List Entry → Prop) : (f14_d s_61 n_62 n_63 es_64 full_65 (fun es0_7 full0_8 b0_9 es0_10 full0_11 n0_12 n0_13 => K (.tup [.pagg [.sl 4 es0_7 full0_8, pB b0_9, .sl 4 es0_10 full0_11, pI n0_12], .one (.p (pI n0_13))]) [])) = funcT f14_C Tryd.f14 [.w (.pagg [pS s_61, pI n_62, pI n_63, .sl 5 es_64 full_65])] [] K := by kernel_rfl
set_option maxHeartbeats 4000000 in
theorem f14_ok0 : FnOk Tryd.prog glob 14 f14_G0 := by
  refine FnOk.of_text (C := f14_C) tab_ok.ok (Known.add f39_G_ok (Known.add f38_G_ok (Known.add f37_G_ok (Known.add f16_G_ok (Known.none))))) follows_ok (fn := Tryd.f14) (by kernel_rfl) (by kernel_rfl) (by kernel_rfl) (fun c hc => ?_) fun tm hp K h => ?_
  · have e : c = bodyOf Tryd.f14 := Option.some.inj (hc.symm.trans (by kernel_rfl))
    subst e
    exact ⟨LoopsOk.of [nthC (bodies (bodyOf Tryd.f14)) 0] (by kernel_rfl) ⟨f14_p18_ok, trivial⟩, TailsOk.of (tab := f14_tab) rfl [nthC (tails (bodyOf Tryd.f14)) 7] (by kernel_rfl) ⟨f14_p17_ok, trivial⟩⟩
  · unfold f14_G0 at h
    obtain ⟨xx, yy, rfl, rfl, h⟩ := getS_elim h
    have e := (f14_eq xx.1.1 xx.1.2.1 xx.1.2.2.1 xx.1.2.2.2.1.1 xx.1.2.2.2.1.2 K).trans (show _ = funcT f14_C Tryd.f14 (mkR _ xx) (mkE _ yy) K by kernel_rfl)
    rw [← e]
    exact h.run
noncomputable abbrev f14_G := f14_G0
theorem f14_G_ok : FnOk Tryd.prog glob 14 f14_G := f14_ok0
end Go.Eng.N
set_option linter.unusedVariables false
set_option maxRecDepth 100000
open Go Go.Eng Go.Proofs
namespace Go.Eng.N
/-! ### f36: plenum/plenumlaw39.hvac -/
noncomputable def f36_d (k0 : ByteArray → Int → Int → (List (List PC)) → Bool → Prop) : Prop := k0 (⟨#[104, 118, 97, 99]⟩ : ByteArray) 20 3 [[pS (⟨#[100, 97, 121]⟩ : ByteArray), pI 31, pI 480, pI 1019, pI 7], [pS (⟨#[119, 97, 116, 99, 104]⟩ : ByteArray), pI 127, pI 0, pI 1439, pI 3]] false
structure f36 (k0 : ByteArray → Int → Int → (List (List PC)) → Bool → Prop) : Prop where
  run : f36_d k0
noncomputable def f36_tab : List (Nat × Told) := []
noncomputable def f36_call : FuncId → List TV → List Entry → (TV → List Entry → Prop) → Prop := noCalls
noncomputable def f36_C : Ctx := { ty := tyOf tab, glob := glob, byRef := byRef, keep := fun k i => lookN [] (lookN [] ([] : List (Nat × List (Nat × List Nat))) k) i, late := lookN [] ([] : List (Nat × List Nat)), nref := lookN [] ([] : List (Nat × List Nat)), nbox := lookN [] ([] : List (Nat × List (Nat × Nat))), take := [], rnil := false, m := 0, fz := true, loops := lookL f36_tab, call := f36_call }
noncomputable def f36_G0 : List TV → List Entry → (TV → List Entry → Prop) → Prop := fun tm hp K => getS [] [] tm hp fun (xx : Unit) (yy : Unit) => f36 (fun s0_0 n0_1 n0_2 es0_3 full0_4 => K (.w (.pagg [pS s0_0, pI n0_1, pI n0_2, .sl 5 es0_3 full0_4])) [])
set_option maxRecDepth 100000 in
theorem f36_eq (K : TV → List Entry → Prop) : (f36_d (fun s0_0 n0_1 n0_2 es0_3 full0_4 => K (.w (.pagg [pS s0_0, pI n0_1, pI n0_2, .sl 5 es0_3 full0_4])) [])) = funcT f36_C Tryd.f36 [] [] K := by kernel_rfl
set_option maxHeartbeats 4000000 in
theorem f36_ok0 : FnOk Tryd.prog glob 36 f36_G0 := by
  refine FnOk.of_text (C := f36_C) tab_ok.ok (Known.none) follows_ok (fn := Tryd.f36) (by kernel_rfl) (by kernel_rfl) (by kernel_rfl) (fun c hc => ?_) fun tm hp K h => ?_
  · have e : c = bodyOf Tryd.f36 := Option.some.inj (hc.symm.trans (by kernel_rfl))
    subst e
    exact ⟨LoopsOk.of [] (by kernel_rfl) trivial, TailsOk.of (tab := f36_tab) rfl [] (by kernel_rfl) trivial⟩
  · unfold f36_G0 at h
    obtain ⟨xx, yy, rfl, rfl, h⟩ := getS_elim h
    have e := (f36_eq K).trans (show _ = funcT f36_C Tryd.f36 (mkR _ xx) (mkE _ yy) K by kernel_rfl)
    rw [← e]
    exact h.run
noncomputable abbrev f36_G := f36_G0
theorem f36_G_ok : FnOk Tryd.prog glob 36 f36_G := f36_ok0
end Go.Eng.N
set_option linter.unusedVariables false
set_option maxRecDepth 100000
open Go Go.Eng Go.Proofs
namespace Go.Eng.N
/-! ### f12: plenum/plenumlaw39.awake -/
noncomputable def f12_d (k0 : Bool → Prop) : Prop := f36 (fun s1 n2 n3 es4 full5 => f19 s1 n2 n3 es4 full5 43200 1 (fun es6 full7 n8 => f19 s1 n2 n3 es4 full5 43200 0 (fun es9 full10 n11 => f19 s1 n2 n3 es4 full5 201600 3 (fun es12 full13 n14 => f21 s1 n2 n3 es4 full5 0 (⟨#[]⟩ : ByteArray) 43200 0 4 0 0 (fun es15 full16 n17 => f25 s1 n2 n3 es4 full5 0 (fun es18 full19 n20 => f25 s1 n2 n3 es4 full5 4 (fun es21 full22 n23 => f27 s1 n2 n3 es4 full5 (⟨#[100, 97, 121]⟩ : ByteArray) (fun s24 n25 n26 es27 full28 n29 => f14 s1 n2 n3 es4 full5 (fun es30 full31 b32 es33 full34 n35 n36 => bB (n8 == 0) (bB (((es6.length : Nat) : Int) == 1) ((0 ≤ (0 : Int) ∧ (0 : Int) < ((es6.length : Nat) : Int)) ∧ oS (ext (List.getD es6 0 []) 0 1) fun s37 => bB (s37.toList == (⟨#[119, 97, 116, 99, 104]⟩ : ByteArray).toList) (bB (n11 == 0) (bB (((es9.length : Nat) : Int) == 0) (bB (n14 == 0) (bB (((es12.length : Nat) : Int) == 2) ((0 ≤ (0 : Int) ∧ (0 : Int) < ((es12.length : Nat) : Int)) ∧ oS (ext (List.getD es12 0 []) 0 1) fun s38 => bB (s38.toList == (⟨#[100, 97, 121]⟩ : ByteArray).toList) (bB (n17 == 0) (bB (((es15.length : Nat) : Int) == 1) ((0 ≤ (0 : Int) ∧ (0 : Int) < ((es15.length : Nat) : Int)) ∧ oB (ext (List.getD es15 0 []) 9 1) fun b39 => bB b39 ((0 ≤ (0 : Int) ∧ (0 : Int) < ((es15.length : Nat) : Int)) ∧ oI .i64 (ext (List.getD es15 0 []) 8 1) fun n40 => bB (n40 == 20) (bB (n20 == 0) (bB (((es18.length : Nat) : Int) == 12) ((0 ≤ (1 : Int) ∧ (1 : Int) < ((es18.length : Nat) : Int)) ∧ cI .i64 (ext (List.getD es18 1 []) 0 3) fun n42 r41 => cI .i64 r41 fun n44 r43 => cI .i64 r43 fun n46 r45 => nilC r45 <| bB ((n42 == 1) && ((n44 == 1020) && ((n46 == 1439) && true))) (bB (n23 == 0) (bB (((es21.length : Nat) : Int) == 0) (bB (n29 == 10) (bB (n36 == 0) (bB (((es33.length : Nat) : Int) == 2) (f16 s1 n2 n3 es4 full5 (fun n47 => k0 (n47 == 0))) (k0 false)) (k0 false)) (k0 false)) (k0 false)) (k0 false)) (k0 false)) (k0 false)) (k0 false)) (k0 false)) (k0 false)) (k0 false)) (k0 false)) (k0 false)) (k0 false)) (k0 false)) (k0 false)) (k0 false)) (k0 false)) (k0 false)) (k0 false))))))))))
structure f12 (k0 : Bool → Prop) : Prop where
  run : f12_d k0
noncomputable def f12_tab : List (Nat × Told) := []
noncomputable def f12_call : FuncId → List TV → List Entry → (TV → List Entry → Prop) → Prop := addCall 36 f36_G (addCall 27 f27_G (addCall 25 f25_G (addCall 21 f21_G (addCall 19 f19_G (addCall 16 f16_G (addCall 14 f14_G (noCalls)))))))
noncomputable def f12_C : Ctx := { ty := tyOf tab, glob := glob, byRef := byRef, keep := fun k i => lookN [] (lookN [] ([] : List (Nat × List (Nat × List Nat))) k) i, late := lookN [] ([] : List (Nat × List Nat)), nref := lookN [] ([] : List (Nat × List Nat)), nbox := lookN [] ([] : List (Nat × List (Nat × Nat))), take := [], rnil := false, m := 0, fz := true, loops := lookL f12_tab, call := f12_call }
noncomputable def f12_G0 : List TV → List Entry → (TV → List Entry → Prop) → Prop := fun tm hp K => getS [] [] tm hp fun (xx : Unit) (yy : Unit) => f12 (fun b0_0 => K (B b0_0) [])
set_option maxRecDepth 100000 in
theorem f12_eq (K : TV → List Entry → Prop) : (f12_d (fun b0_0 => K (B b0_0) [])) = funcT f12_C Tryd.f12 [] [] K := by kernel_rfl
set_option maxHeartbeats 4000000 in
theorem f12_ok0 : FnOk Tryd.prog glob 12 f12_G0 := by
  refine FnOk.of_text (C := f12_C) tab_ok.ok (Known.add f36_G_ok (Known.add f27_G_ok (Known.add f25_G_ok (Known.add f21_G_ok (Known.add f19_G_ok (Known.add f16_G_ok (Known.add f14_G_ok (Known.none)))))))) follows_ok (fn := Tryd.f12) (by kernel_rfl) (by kernel_rfl) (by kernel_rfl) (fun c hc => ?_) fun tm hp K h => ?_
  · have e : c = bodyOf Tryd.f12 := Option.some.inj (hc.symm.trans (by kernel_rfl))
    subst e
    exact ⟨LoopsOk.of [] (by kernel_rfl) trivial, TailsOk.of (tab := f12_tab) rfl [] (by kernel_rfl) trivial⟩
  · unfold f12_G0 at h
    obtain ⟨xx, yy, rfl, rfl, h⟩ := getS_elim h
    have e := (f12_eq K).trans (show _ = funcT f12_C Tryd.f12 (mkR _ xx) (mkE _ yy) K by kernel_rfl)
    rw [← e]
    exact h.run
noncomputable abbrev f12_G := f12_G0
theorem f12_G_ok : FnOk Tryd.prog glob 12 f12_G := f12_ok0
end Go.Eng.N
set_option linter.unusedVariables false
set_option maxRecDepth 100000
open Go Go.Eng Go.Proofs
namespace Go.Eng.N
/-! ### f33: plenum/plenumlaw39.few -/
noncomputable def f33_p8b0 (es11 : List (List PC)) (full12 : Bool) (es13 : List (List PC)) (full14 : Bool) (n15 : Int) (N0 : Int → Prop) (k0 : Bool → Prop) (k1 : Unit → Prop) : Prop := bB (decide (n15 < ((es11.length : Nat) : Int))) ((0 ≤ n15 ∧ n15 < ((es11.length : Nat) : Int)) ∧ cS (ext (List.getD es11 (Int.toNat n15) []) 0 4) fun s17 r16 => cI .i64 r16 fun n19 r18 => cI .i64 r18 fun n21 r20 => cL 5 r20 fun es23 full24 r22 => nilC r22 <| f13 s17 n19 n21 es23 full24 (fun b25 => bB (!b25) (k0 false) (N0 (w64 (n15 + 1))))) (k1 ())
noncomputable def f33_p8 (es11 : List (List PC)) (full12 : Bool) (es13 : List (List PC)) (full14 : Bool) (k0 : Bool → Prop) (k1 : Unit → Prop) : Int → Prop := LoopP fun x N => f33_p8b0 es11 full12 es13 full14 x (fun n15 => N n15) k0 k1
noncomputable def f33_p18b0 (es27 : List (List PC)) (full28 : Bool) (n29 : Int) (N0 : Int → Prop) (k0 : Bool → Prop) (k1 : Unit → Prop) : Prop := bB (decide (n29 < ((es27.length : Nat) : Int))) ((0 ≤ n29 ∧ n29 < ((es27.length : Nat) : Int)) ∧ oS (ext (List.getD es27 (Int.toNat n29) []) 1 1) fun s30 => bB (decide (((s30.size : Nat) : Int) > 100)) (k0 false) (N0 (w64 (n29 + 1)))) (k1 ())
noncomputable def f33_p18 (es27 : List (List PC)) (full28 : Bool) (k0 : Bool → Prop) (k1 : Unit → Prop) : Int → Prop := LoopP fun x N => f33_p18b0 es27 full28 x (fun n29 => N n29) k0 k1
noncomputable def f33_p7 (es7 : List (List PC)) (full8 : Bool) (es9 : List (List PC)) (full10 : Bool) (k0 : Bool → Prop) : Prop := f33_p8 es7 full8 es9 full10 (fun b26 => k0 b26) (fun (_ : Unit) => f33_p18 es9 full10 (fun b31 => k0 b31) (fun (_ : Unit) => k0 true) 0) 0
noncomputable def f33_d (es1 : List (List PC)) (full2 : Bool) (es3 : List (List PC)) (full4 : Bool) (es5 : List (List PC)) (full6 : Bool) (k0 : Bool → Prop) : Prop := bB (decide (((es1.length : Nat) : Int) > 8)) (k0 false) (bB (decide (((es3.length : Nat) : Int) > 12)) (k0 false) (bB (decide (((es5.length : Nat) : Int) > 12)) (k0 false) (f33_p7 es1 full2 es5 full6 (fun b32 => k0 b32))))
structure f33 (es1 : List (List PC)) (full2 : Bool) (es3 : List (List PC)) (full4 : Bool) (es5 : List (List PC)) (full6 : Bool) (k0 : Bool → Prop) : Prop where
  run : f33_d es1 full2 es3 full4 es5 full6 k0
noncomputable def f33_p8L : Told := fun s K => match s with
  | ⟨tm, hp⟩ => getS [.v (.one (.sl 4)), .skip 1, .v (.one (.sl 7)), .skip 4, .v (.one (.int .i64)), .skip 39] [] tm hp fun (xx : ((List (List PC) × Bool) × (Unit × ((List (List PC) × Bool) × (Unit × (Int × (Unit × Unit))))))) (yy : Unit) => f33_p8 xx.1.1 xx.1.2 xx.2.2.1.1 xx.2.2.1.2 (fun b0_0 => K .ret ⟨mkS 47 [(6, B b0_0)], []⟩) (fun (_ : Unit) => K (.exit 0) ⟨mkS 47 [(2, .w (.one (.p (.sl 7 xx.2.2.1.1 xx.2.2.1.2))))], []⟩) xx.2.2.2.2.1
noncomputable def f33_p18L : Told := fun s K => match s with
  | ⟨tm, hp⟩ => getS [.skip 2, .v (.one (.sl 7)), .skip 5, .v (.one (.int .i64)), .skip 38] [] tm hp fun (xx : (Unit × ((List (List PC) × Bool) × (Unit × (Int × (Unit × Unit)))))) (yy : Unit) => f33_p18 xx.2.1.1 xx.2.1.2 (fun b0_1 => K .ret ⟨mkS 47 [(6, B b0_1)], []⟩) (fun (_ : Unit) => K (.exit 2) ⟨mkS 47 [], []⟩) xx.2.2.2.1
noncomputable def f33_p7L : Told := fun s K => match s with
  | ⟨tm, hp⟩ => getS [.v (.one (.sl 4)), .skip 1, .v (.one (.sl 7)), .skip 44] [] tm hp fun (xx : ((List (List PC) × Bool) × (Unit × ((List (List PC) × Bool) × (Unit × Unit))))) (yy : Unit) => f33_p7 xx.1.1 xx.1.2 xx.2.2.1.1 xx.2.2.1.2 (fun b0_2 => K .ret ⟨mkS 47 [(6, B b0_2)], []⟩)
noncomputable def f33_tab : List (Nat × Told) := [(8, f33_p8L), (18, f33_p18L), (7, f33_p7L)]
noncomputable def f33_call : FuncId → List TV → List Entry → (TV → List Entry → Prop) → Prop := addCall 13 f13_G (noCalls)
noncomputable def f33_C : Ctx := { ty := tyOf tab, glob := glob, byRef := byRef, keep := fun k i => lookN [] (lookN [] ([(8, [(0, [0, 2, 7]), (2, [6]), (3, [2])]), (18, [(0, [2, 8]), (2, [6]), (5, [])]), (7, [(0, [0, 2]), (1, [6]), (2, [6])])] : List (Nat × List (Nat × List Nat))) k) i, late := lookN [] ([] : List (Nat × List Nat)), nref := lookN [] ([] : List (Nat × List Nat)), nbox := lookN [] ([] : List (Nat × List (Nat × Nat))), take := [], rnil := false, m := 0, fz := true, loops := lookL f33_tab, call := f33_call }
noncomputable def f33_p8_mk (es11 : List (List PC)) (full12 : Bool) (es13 : List (List PC)) (full14 : Bool) (x : Int) : St := ⟨mkS 47 [(0, .w (.one (.p (.sl 4 es11 full12)))), (2, .w (.one (.p (.sl 7 es13 full14)))), (7, I x)], []⟩
set_option maxRecDepth 100000 in
theorem f33_p8e0 (es_9 : List (List PC)) (full_10 : Bool) (es_11 : List (List PC)) (full_12 : Bool) (n_13 : Int) (N : St → Prop) (K : TExit → St → Prop) : (f33_p8b0 es_9 full_10 es_11 full_12 n_13 (fun z4 => N (f33_p8_mk es_9 full_10 es_11 full_12 z4)) (fun b0_14 => K .ret ⟨mkS 47 [(6, B b0_14)], []⟩) (fun (_ : Unit) => K (.exit 0) ⟨mkS 47 [(2, .w (.one (.p (.sl 7 es_11 full_12))))], []⟩)) = execT f33_C (nthC (bodies (bodyOf Tryd.f33)) 0) (f33_p8_mk es_9 full_10 es_11 full_12 n_13) (loopK N (normK f33_C 8) fun e s => K e (normOut f33_C 8 e s)) := by kernel_rfl
noncomputable def f33_p18_mk (es27 : List (List PC)) (full28 : Bool) (x : Int) : St := ⟨mkS 47 [(2, .w (.one (.p (.sl 7 es27 full28)))), (8, I x)], []⟩
set_option maxRecDepth 100000 in
theorem f33_p18e0 (es_18 : List (List PC)) (full_19 : Bool) (n_20 : Int) (N : St → Prop) (K : TExit → St → Prop) : (f33_p18b0 es_18 full_19 n_20 (fun z2 => N (f33_p18_mk es_18 full_19 z2)) (fun b0_21 => K .ret ⟨mkS 47 [(6, B b0_21)], []⟩) (fun (_ : Unit) => K (.exit 2) ⟨mkS 47 [], []⟩)) = execT f33_C (nthC (bodies (bodyOf Tryd.f33)) 1) (f33_p18_mk es_18 full_19 n_20) (loopK N (normK f33_C 18) fun e s => K e (normOut f33_C 18 e s)) := by kernel_rfl
set_option maxRecDepth 100000 in
theorem f33_p7e0 (es_22 : List (List PC)) (full_23 : Bool) (es_24 : List (List PC)) (full_25 : Bool) (K : TExit → St → Prop) : (f33_p7 es_22 full_23 es_24 full_25 (fun b0_26 => K .ret ⟨mkS 47 [(6, B b0_26)], []⟩)) = execT f33_C (nthC (tails (bodyOf Tryd.f33)) 1) ⟨mkS 47 [(0, .w (.one (.p (.sl 4 es_22 full_23)))), (2, .w (.one (.p (.sl 7 es_24 full_25))))], []⟩ (fun e s => K e (normOut f33_C 7 e s)) := by kernel_rfl
set_option maxHeartbeats 4000000 in
theorem f33_p8_ok : LoopOk f33_C (nthC (bodies (bodyOf Tryd.f33)) 0) := by
  refine LoopOk.of f33_p8L (by kernel_rfl) fun σ K h => ?_
  have hk : loopKey (nthC (bodies (bodyOf Tryd.f33)) 0) = 8 := by kernel_rfl
  rw [hk] at h ⊢
  generalize hs : normK f33_C 8 σ = s at h
  obtain ⟨tm, hp⟩ := s
  unfold f33_p8L at h
  dsimp only at h
  obtain ⟨xx, yy, rfl, rfl, h⟩ := getS_elim h
  refine iter_of (f33_p8_mk xx.1.1 xx.1.2 xx.2.2.1.1 xx.2.2.1.2) (fun x N h => ?_) rounds _ σ (hs.trans (by kernel_rfl)) (LoopP.run h)
  rw [← f33_p8e0 xx.1.1 xx.1.2 xx.2.2.1.1 xx.2.2.1.2 x N K]
  exact h
set_option maxHeartbeats 4000000 in
theorem f33_p18_ok : LoopOk f33_C (nthC (bodies (bodyOf Tryd.f33)) 1) := by
  refine LoopOk.of f33_p18L (by kernel_rfl) fun σ K h => ?_
  have hk : loopKey (nthC (bodies (bodyOf Tryd.f33)) 1) = 18 := by kernel_rfl
  rw [hk] at h ⊢
  generalize hs : normK f33_C 18 σ = s at h
  obtain ⟨tm, hp⟩ := s
  unfold f33_p18L at h
  dsimp only at h
  obtain ⟨xx, yy, rfl, rfl, h⟩ := getS_elim h
  refine iter_of (f33_p18_mk xx.2.1.1 xx.2.1.2) (fun x N h => ?_) rounds _ σ (hs.trans (by kernel_rfl)) (LoopP.run h)
  rw [← f33_p18e0 xx.2.1.1 xx.2.1.2 x N K]
  exact h
set_option maxHeartbeats 4000000 in
theorem f33_p7_ok : TailOk f33_C (nthC (tails (bodyOf Tryd.f33)) 1) := by
  refine TailOk.of f33_p7L (by kernel_rfl) fun σ K h => ?_
  have hk : joinKey (nthC (tails (bodyOf Tryd.f33)) 1) = 7 := by kernel_rfl
  rw [hk] at h ⊢
  generalize hs : normK f33_C 7 σ = s at h
  obtain ⟨tm, hp⟩ := s
  unfold f33_p7L at h
  dsimp only at h
  obtain ⟨xx, yy, rfl, rfl, h⟩ := getS_elim h
  have q : normK f33_C 7 σ = (⟨mkS 47 [(0, .w (.one (.p (.sl 4 xx.1.1 xx.1.2)))), (2, .w (.one (.p (.sl 7 xx.2.2.1.1 xx.2.2.1.2))))], []⟩ : St) := hs.trans (by kernel_rfl)
  rw [← hs, q, ← f33_p7e0 xx.1.1 xx.1.2 xx.2.2.1.1 xx.2.2.1.2 K]
  exact h
noncomputable def f33_G0 : List TV → List Entry → (TV → List Entry → Prop) → Prop := fun tm hp K => getS [.v (.one (.sl 4)), .v (.one (.sl 9)), .v (.one (.sl 7))] [] tm hp fun (xx : ((List (List PC) × Bool) × ((List (List PC) × Bool) × ((List (List PC) × Bool) × Unit)))) (yy : Unit) => f33 xx.1.1 xx.1.2 xx.2.1.1 xx.2.1.2 xx.2.2.1.1 xx.2.2.1.2 (fun b0_3 => K (B b0_3) [])
set_option maxRecDepth 100000 in
theorem f33_eq (es_27 : List (List PC)) (full_28 : Bool) (es_29 : List (List PC)) (full_30 : Bool) (es_31 : List (List PC)) (full_32 : Bool) (K : TV → List Entry → Prop) : (f33_d es_27 full_28 es_29 full_30 es_31 full_32 (fun b0_3 => K (B b0_3) [])) = funcT f33_C Tryd.f33 [.w (.one (.p (.sl 4 es_27 full_28))), .w (.one (.p (.sl 9 es_29 full_30))), .w (.one (.p (.sl 7 es_31 full_32)))] [] K := by kernel_rfl
set_option maxHeartbeats 4000000 in
theorem f33_ok0 : FnOk Tryd.prog glob 33 f33_G0 := by
  refine FnOk.of_text (C := f33_C) tab_ok.ok (Known.add f13_G_ok (Known.none)) follows_ok (fn := Tryd.f33) (by kernel_rfl) (by kernel_rfl) (by kernel_rfl) (fun c hc => ?_) fun tm hp K h => ?_
  · have e : c = bodyOf Tryd.f33 := Option.some.inj (hc.symm.trans (by kernel_rfl))
    subst e
    exact ⟨LoopsOk.of [nthC (bodies (bodyOf Tryd.f33)) 0, nthC (bodies (bodyOf Tryd.f33)) 1] (by kernel_rfl) ⟨f33_p8_ok, f33_p18_ok, trivial⟩, TailsOk.of (tab := f33_tab) rfl [nthC (tails (bodyOf Tryd.f33)) 1] (by kernel_rfl) ⟨f33_p7_ok, trivial⟩⟩
  · unfold f33_G0 at h
    obtain ⟨xx, yy, rfl, rfl, h⟩ := getS_elim h
    have e := (f33_eq xx.1.1 xx.1.2 xx.2.1.1 xx.2.1.2 xx.2.2.1.1 xx.2.2.1.2 K).trans (show _ = funcT f33_C Tryd.f33 (mkR _ xx) (mkE _ yy) K by kernel_rfl)
    rw [← e]
    exact h.run
noncomputable abbrev f33_G := f33_G0
theorem f33_G_ok : FnOk Tryd.prog glob 33 f33_G := f33_ok0
end Go.Eng.N
set_option linter.unusedVariables false
set_option maxRecDepth 100000
open Go Go.Eng Go.Proofs
namespace Go.Eng.N
/-! ### f77: plenum/notify.Route$1 -/
noncomputable def f77_d (s1 : ByteArray) (s2 : ByteArray) (n3 : Int) (n4 : Int) (n5 : Int) (es6 : List (List PC)) (full7 : Bool) (n8 : Int) (n9 : Int) (s10 : ByteArray) (n11 : Int) (s12 : ByteArray) (n13 : Int) (n14 : Int) (n15 : Int) (n16 : Int) (n17 : Int) (k0 : Bool → Int → ByteArray → Int → Int → Int → Int → Int → Prop) : Prop := k0 (s2.toList == s12.toList) n11 s12 n13 n14 n15 n16 n17
structure f77 (s1 : ByteArray) (s2 : ByteArray) (n3 : Int) (n4 : Int) (n5 : Int) (es6 : List (List PC)) (full7 : Bool) (n8 : Int) (n9 : Int) (s10 : ByteArray) (n11 : Int) (s12 : ByteArray) (n13 : Int) (n14 : Int) (n15 : Int) (n16 : Int) (n17 : Int) (k0 : Bool → Int → ByteArray → Int → Int → Int → Int → Int → Prop) : Prop where
  run : f77_d s1 s2 n3 n4 n5 es6 full7 n8 n9 s10 n11 s12 n13 n14 n15 n16 n17 k0
noncomputable def f77_tab : List (Nat × Told) := []
noncomputable def f77_call : FuncId → List TV → List Entry → (TV → List Entry → Prop) → Prop := noCalls
noncomputable def f77_C : Ctx := { ty := tyOf tab, glob := glob, byRef := byRef, keep := fun k i => lookN [] (lookN [] ([] : List (Nat × List (Nat × List Nat))) k) i, late := lookN [] ([] : List (Nat × List Nat)), nref := lookN [] ([] : List (Nat × List Nat)), nbox := lookN [] ([] : List (Nat × List (Nat × Nat))), take := [], rnil := false, m := 1, fz := true, loops := lookL f77_tab, call := f77_call }
noncomputable def f77_G0 : List TV → List Entry → (TV → List Entry → Prop) → Prop := fun tm hp K => getS [.v (.pagg [.str, .str, .int .i64, .int .i64, .int .i64, .sl 1, .int .i64, .int .i64, .str]), .v (.one (.ptr 0 0 0))] [.box [.int .i64, .str, .int .i64, .int .i64, .int .i64, .int .i64, .int .i64]] tm hp fun (xx : ((ByteArray × (ByteArray × (Int × (Int × (Int × ((List (List PC) × Bool) × (Int × (Int × (ByteArray × Unit))))))))) × (Unit × Unit))) (yy : ((Int × (ByteArray × (Int × (Int × (Int × (Int × (Int × Unit))))))) × Unit)) => f77 xx.1.1 xx.1.2.1 xx.1.2.2.1 xx.1.2.2.2.1 xx.1.2.2.2.2.1 xx.1.2.2.2.2.2.1.1 xx.1.2.2.2.2.2.1.2 xx.1.2.2.2.2.2.2.1 xx.1.2.2.2.2.2.2.2.1 xx.1.2.2.2.2.2.2.2.2.1 yy.1.1 yy.1.2.1 yy.1.2.2.1 yy.1.2.2.2.1 yy.1.2.2.2.2.1 yy.1.2.2.2.2.2.1 yy.1.2.2.2.2.2.2.1 (fun b0_0 n0_1 s0_2 n0_3 n0_4 n0_5 n0_6 n0_7 => K (B b0_0) [.box [.p (pI n0_1), .p (pS s0_2), .p (pI n0_3), .p (pI n0_4), .p (pI n0_5), .p (pI n0_6), .p (pI n0_7)]])
set_option maxRecDepth 100000 in
theorem f77_eq (s_8 : ByteArray) (s_9 : ByteArray) (n_10 : Int) (n_11 : Int) (n_12 : Int) (es_13 : List (List PC)) (full_14 : Bool) (n_15 : Int) (n_16 : Int) (s_17 : ByteArray) (n_18 : Int) (s_19 : ByteArray) (n_20 : Int) (n_21 : Int) (n_22 : Int) (n_23 : Int) (n_24 : Int) (K : TV → List Entry → Prop) : (f77_d s_8 s_9 n_10 n_11 n_12 es_13 full_14 n_15 n_16 s_17 n_18 s_19 n_20 n_21 n_22 n_23 n_24 (fun b0_0 n0_1 s0_2 n0_3 n0_4 n0_5 n0_6 n0_7 => K (B b0_0) [.box [.p (pI n0_1), .p (pS s0_2), .p (pI n0_3), .p (pI n0_4), .p (pI n0_5), .p (pI n0_6), .p (pI n0_7)]])) = funcT f77_C Tryd.f77 [.w (.pagg [pS s_8, pS s_9, pI n_10, pI n_11, pI n_12, .sl 1 es_13 full_14, pI n_15, pI n_16, pS s_17]), .w (.one (.ptr 0 0 0))] [.box [.p (pI n_18), .p (pS s_19), .p (pI n_20), .p (pI n_21), .p (pI n_22), .p (pI n_23), .p (pI n_24)]] K := by kernel_rfl
set_option maxHeartbeats 4000000 in
theorem f77_ok0 : FnOk Tryd.prog glob 77 f77_G0 := by
  refine FnOk.of_text (C := f77_C) tab_ok.ok (Known.none) follows_ok (fn := Tryd.f77) (by kernel_rfl) (by kernel_rfl) (by kernel_rfl) (fun c hc => ?_) fun tm hp K h => ?_
  · have e : c = bodyOf Tryd.f77 := Option.some.inj (hc.symm.trans (by kernel_rfl))
    subst e
    exact ⟨LoopsOk.of [] (by kernel_rfl) trivial, TailsOk.of (tab := f77_tab) rfl [] (by kernel_rfl) trivial⟩
  · unfold f77_G0 at h
    obtain ⟨xx, yy, rfl, rfl, h⟩ := getS_elim h
    have e := (f77_eq xx.1.1 xx.1.2.1 xx.1.2.2.1 xx.1.2.2.2.1 xx.1.2.2.2.2.1 xx.1.2.2.2.2.2.1.1 xx.1.2.2.2.2.2.1.2 xx.1.2.2.2.2.2.2.1 xx.1.2.2.2.2.2.2.2.1 xx.1.2.2.2.2.2.2.2.2.1 yy.1.1 yy.1.2.1 yy.1.2.2.1 yy.1.2.2.2.1 yy.1.2.2.2.2.1 yy.1.2.2.2.2.2.1 yy.1.2.2.2.2.2.2.1 K).trans (show _ = funcT f77_C Tryd.f77 (mkR _ xx) (mkE _ yy) K by kernel_rfl)
    rw [← e]
    exact h.run
noncomputable abbrev f77_G := f77_G0
theorem f77_G_ok : FnOk Tryd.prog glob 77 f77_G := f77_ok0
end Go.Eng.N
set_option linter.unusedVariables false
set_option maxRecDepth 100000
open Go Go.Eng Go.Proofs
namespace Go.Eng.N
/-! ### f76: slices.IndexFunc(()plenum/api.AlarmRule,plenum/api.AlarmRule) -/
noncomputable def f76_p4b0 (es10 : List (List PC)) (full11 : Bool) (n12 : Int) (n13 : Int) (n14 : Int) (s15 : ByteArray) (n16 : Int) (n17 : Int) (n18 : Int) (n19 : Int) (n20 : Int) (N0 : Int → Int → ByteArray → Int → Int → Int → Int → Int → Prop) (k0 : Int → Int → ByteArray → Int → Int → Int → Int → Int → Prop) (k1 : Int → ByteArray → Int → Int → Int → Int → Int → Prop) : Prop := bB (decide (n13 < n12)) ((0 ≤ n13 ∧ n13 < ((es10.length : Nat) : Int)) ∧ cS (ext (List.getD es10 (Int.toNat n13) []) 0 9) fun s22 r21 => cS r21 fun s24 r23 => cI .i64 r23 fun n26 r25 => cI .i64 r25 fun n28 r27 => cI .i64 r27 fun n30 r29 => cL 1 r29 fun es32 full33 r31 => cI .i64 r31 fun n35 r34 => cI .i64 r34 fun n37 r36 => cS r36 fun s39 r38 => nilC r38 <| f77 s22 s24 n26 n28 n30 es32 full33 n35 n37 s39 n14 s15 n16 n17 n18 n19 n20 (fun b40 n41 s42 n43 n44 n45 n46 n47 => bB b40 (k0 n13 n41 s42 n43 n44 n45 n46 n47) (N0 (w64 (n13 + 1)) n41 s42 n43 n44 n45 n46 n47))) (k1 n14 s15 n16 n17 n18 n19 n20)
noncomputable def f76_p4 (es10 : List (List PC)) (full11 : Bool) (n12 : Int) (k0 : Int → Int → ByteArray → Int → Int → Int → Int → Int → Prop) (k1 : Int → ByteArray → Int → Int → Int → Int → Int → Prop) : Int × Int × ByteArray × Int × Int × Int × Int × Int → Prop := LoopP fun x N => f76_p4b0 es10 full11 n12 x.1 x.2.1 x.2.2.1 x.2.2.2.1 x.2.2.2.2.1 x.2.2.2.2.2.1 x.2.2.2.2.2.2.1 x.2.2.2.2.2.2.2 (fun n13 n14 s15 n16 n17 n18 n19 n20 => N (n13, n14, s15, n16, n17, n18, n19, n20)) k0 k1
noncomputable def f76_d (es1 : List (List PC)) (full2 : Bool) (n3 : Int) (s4 : ByteArray) (n5 : Int) (n6 : Int) (n7 : Int) (n8 : Int) (n9 : Int) (k0 : Int → Int → ByteArray → Int → Int → Int → Int → Int → Prop) : Prop := f76_p4 es1 full2 ((es1.length : Nat) : Int) (fun n48 n49 s50 n51 n52 n53 n54 n55 => k0 n48 n49 s50 n51 n52 n53 n54 n55) (fun n56 s57 n58 n59 n60 n61 n62 => k0 (-1) n56 s57 n58 n59 n60 n61 n62) (0, n3, s4, n5, n6, n7, n8, n9)
structure f76 (es1 : List (List PC)) (full2 : Bool) (n3 : Int) (s4 : ByteArray) (n5 : Int) (n6 : Int) (n7 : Int) (n8 : Int) (n9 : Int) (k0 : Int → Int → ByteArray → Int → Int → Int → Int → Int → Prop) : Prop where
  run : f76_d es1 full2 n3 s4 n5 n6 n7 n8 n9 k0
noncomputable def f76_p4L : Told := fun s K => match s with
  | ⟨tm, hp⟩ => getS [.v (.one (.sl 9)), .v (.clo 77 [] [.ptr 0 0 0]), .skip 5, .v (.one (.int .i64)), .v (.one (.int .i64)), .skip 10] [.box [.int .i64, .str, .int .i64, .int .i64, .int .i64, .int .i64, .int .i64]] tm hp fun (xx : ((List (List PC) × Bool) × ((Unit × (Unit × Unit)) × (Unit × (Int × (Int × (Unit × Unit))))))) (yy : ((Int × (ByteArray × (Int × (Int × (Int × (Int × (Int × Unit))))))) × Unit)) => f76_p4 xx.1.1 xx.1.2 xx.2.2.2.1 (fun n0_0 n0_1 s0_2 n0_3 n0_4 n0_5 n0_6 n0_7 => K .ret ⟨mkS 19 [(4, I n0_0)], [.box [.p (pI n0_1), .p (pS s0_2), .p (pI n0_3), .p (pI n0_4), .p (pI n0_5), .p (pI n0_6), .p (pI n0_7)]]⟩) (fun n1_8 s1_9 n1_10 n1_11 n1_12 n1_13 n1_14 => K (.exit 0) ⟨mkS 19 [], [.box [.p (pI n1_8), .p (pS s1_9), .p (pI n1_10), .p (pI n1_11), .p (pI n1_12), .p (pI n1_13), .p (pI n1_14)]]⟩) (xx.2.2.2.2.1, yy.1.1, yy.1.2.1, yy.1.2.2.1, yy.1.2.2.2.1, yy.1.2.2.2.2.1, yy.1.2.2.2.2.2.1, yy.1.2.2.2.2.2.2.1)
noncomputable def f76_tab : List (Nat × Told) := [(4, f76_p4L)]
noncomputable def f76_call : FuncId → List TV → List Entry → (TV → List Entry → Prop) → Prop := addCall 77 f77_G (noCalls)
noncomputable def f76_C : Ctx := { ty := tyOf tab, glob := glob, byRef := byRef, keep := fun k i => lookN [] (lookN [] ([(4, [(0, [0, 1, 7, 8]), (2, [4]), (3, [])])] : List (Nat × List (Nat × List Nat))) k) i, late := lookN [] ([] : List (Nat × List Nat)), nref := lookN [] ([] : List (Nat × List Nat)), nbox := lookN [] ([] : List (Nat × List (Nat × Nat))), take := [], rnil := false, m := 1, fz := true, loops := lookL f76_tab, call := f76_call }
noncomputable def f76_p4_mk (es10 : List (List PC)) (full11 : Bool) (n12 : Int) (x : Int × Int × ByteArray × Int × Int × Int × Int × Int) : St := ⟨mkS 19 [(0, .w (.one (.p (.sl 9 es10 full11)))), (1, .w (.one (.clo 77 [] [.ptr 0 0 0]))), (7, I n12), (8, I x.1)], [.box [.p (pI x.2.1), .p (pS x.2.2.1), .p (pI x.2.2.2.1), .p (pI x.2.2.2.2.1), .p (pI x.2.2.2.2.2.1), .p (pI x.2.2.2.2.2.2.1), .p (pI x.2.2.2.2.2.2.2)]]⟩
set_option maxRecDepth 100000 in
theorem f76_p4e0 (es_34 : List (List PC)) (full_35 : Bool) (n_36 : Int) (n_37 : Int) (n_38 : Int) (s_39 : ByteArray) (n_40 : Int) (n_41 : Int) (n_42 : Int) (n_43 : Int) (n_44 : Int) (N : St → Prop) (K : TExit → St → Prop) : (f76_p4b0 es_34 full_35 n_36 n_37 n_38 s_39 n_40 n_41 n_42 n_43 n_44 (fun z3 z4 z5 z6 z7 z8 z9 z10 => N (f76_p4_mk es_34 full_35 n_36 (z3, z4, z5, z6, z7, z8, z9, z10))) (fun n0_45 n0_46 s0_47 n0_48 n0_49 n0_50 n0_51 n0_52 => K .ret ⟨mkS 19 [(4, I n0_45)], [.box [.p (pI n0_46), .p (pS s0_47), .p (pI n0_48), .p (pI n0_49), .p (pI n0_50), .p (pI n0_51), .p (pI n0_52)]]⟩) (fun n1_53 s1_54 n1_55 n1_56 n1_57 n1_58 n1_59 => K (.exit 0) ⟨mkS 19 [], [.box [.p (pI n1_53), .p (pS s1_54), .p (pI n1_55), .p (pI n1_56), .p (pI n1_57), .p (pI n1_58), .p (pI n1_59)]]⟩)) = execT f76_C (nthC (bodies (bodyOf Tryd.f76)) 0) (f76_p4_mk es_34 full_35 n_36 (n_37, n_38, s_39, n_40, n_41, n_42, n_43, n_44)) (loopK N (normK f76_C 4) fun e s => K e (normOut f76_C 4 e s)) := by kernel_rfl
set_option maxHeartbeats 4000000 in
theorem f76_p4_ok : LoopOk f76_C (nthC (bodies (bodyOf Tryd.f76)) 0) := by
  refine LoopOk.of f76_p4L (by kernel_rfl) fun σ K h => ?_
  have hk : loopKey (nthC (bodies (bodyOf Tryd.f76)) 0) = 4 := by kernel_rfl
  rw [hk] at h ⊢
  generalize hs : normK f76_C 4 σ = s at h
  obtain ⟨tm, hp⟩ := s
  unfold f76_p4L at h
  dsimp only at h
  obtain ⟨xx, yy, rfl, rfl, h⟩ := getS_elim h
  refine iter_of (f76_p4_mk xx.1.1 xx.1.2 xx.2.2.2.1) (fun x N h => ?_) rounds _ σ (hs.trans (by kernel_rfl)) (LoopP.run h)
  obtain ⟨y0, y1, y2, y3, y4, y5, y6, y7⟩ := x
  rw [← f76_p4e0 xx.1.1 xx.1.2 xx.2.2.2.1 y0 y1 y2 y3 y4 y5 y6 y7 N K]
  exact h
noncomputable def f76_G0 : List TV → List Entry → (TV → List Entry → Prop) → Prop := fun tm hp K => getS [.v (.one (.sl 9)), .v (.clo 77 [] [.ptr 0 0 0])] [.box [.int .i64, .str, .int .i64, .int .i64, .int .i64, .int .i64, .int .i64]] tm hp fun (xx : ((List (List PC) × Bool) × ((Unit × (Unit × Unit)) × Unit))) (yy : ((Int × (ByteArray × (Int × (Int × (Int × (Int × (Int × Unit))))))) × Unit)) => f76 xx.1.1 xx.1.2 yy.1.1 yy.1.2.1 yy.1.2.2.1 yy.1.2.2.2.1 yy.1.2.2.2.2.1 yy.1.2.2.2.2.2.1 yy.1.2.2.2.2.2.2.1 (fun n0_15 n0_16 s0_17 n0_18 n0_19 n0_20 n0_21 n0_22 => K (I n0_15) [.box [.p (pI n0_16), .p (pS s0_17), .p (pI n0_18), .p (pI n0_19), .p (pI n0_20), .p (pI n0_21), .p (pI n0_22)]])
set_option maxRecDepth 100000 in
theorem f76_eq (es_60 : List (List PC)) (full_61 : Bool) (n_62 : Int) (s_63 : ByteArray) (n_64 : Int) (n_65 : Int) (n_66 : Int) (n_67 : Int) (n_68 : Int) (K : TV → List Entry → Prop) : (f76_d es_60 full_61 n_62 s_63 n_64 n_65 n_66 n_67 n_68 (fun n0_15 n0_16 s0_17 n0_18 n0_19 n0_20 n0_21 n0_22 => K (I n0_15) [.box [.p (pI n0_16), .p (pS s0_17), .p (pI n0_18), .p (pI n0_19), .p (pI n0_20), .p (pI n0_21), .p (pI n0_22)]])) = funcT f76_C Tryd.f76 [.w (.one (.p (.sl 9 es_60 full_61))), .w (.one (.clo 77 [] [.ptr 0 0 0]))] [.box [.p (pI n_62), .p (pS s_63), .p (pI n_64), .p (pI n_65), .p (pI n_66), .p (pI n_67), .p (pI n_68)]] K := by kernel_rfl
set_option maxHeartbeats 4000000 in
theorem f76_ok0 : FnOk Tryd.prog glob 76 f76_G0 := by
  refine FnOk.of_text (C := f76_C) tab_ok.ok (Known.add f77_G_ok (Known.none)) follows_ok (fn := Tryd.f76) (by kernel_rfl) (by kernel_rfl) (by kernel_rfl) (fun c hc => ?_) fun tm hp K h => ?_
  · have e : c = bodyOf Tryd.f76 := Option.some.inj (hc.symm.trans (by kernel_rfl))
    subst e
    exact ⟨LoopsOk.of [nthC (bodies (bodyOf Tryd.f76)) 0] (by kernel_rfl) ⟨f76_p4_ok, trivial⟩, TailsOk.of (tab := f76_tab) rfl [] (by kernel_rfl) trivial⟩
  · unfold f76_G0 at h
    obtain ⟨xx, yy, rfl, rfl, h⟩ := getS_elim h
    have e := (f76_eq xx.1.1 xx.1.2 yy.1.1 yy.1.2.1 yy.1.2.2.1 yy.1.2.2.2.1 yy.1.2.2.2.2.1 yy.1.2.2.2.2.2.1 yy.1.2.2.2.2.2.2.1 K).trans (show _ = funcT f76_C Tryd.f76 (mkR _ xx) (mkE _ yy) K by kernel_rfl)
    rw [← e]
    exact h.run
noncomputable abbrev f76_G := f76_G0
theorem f76_G_ok : FnOk Tryd.prog glob 76 f76_G := f76_ok0
end Go.Eng.N
set_option linter.unusedVariables false
set_option maxRecDepth 100000
open Go Go.Eng Go.Proofs
namespace Go.Eng.N
/-! ### f79: plenum/notify.Route$2 -/
noncomputable def f79_d (s1 : ByteArray) (n2 : Int) (n3 : Int) (es4 : List (List PC)) (full5 : Bool) (es6 : List (List PC)) (full7 : Bool) (n8 : Int) (k0 : Bool → (List (List PC)) → Bool → Int → Prop) : Prop := (0 ≤ n8 ∧ n8 < ((es6.length : Nat) : Int)) ∧ oS (ext (List.getD es6 (Int.toNat n8) []) 8 1) fun s9 => k0 (s1.toList == s9.toList) es6 full7 n8
structure f79 (s1 : ByteArray) (n2 : Int) (n3 : Int) (es4 : List (List PC)) (full5 : Bool) (es6 : List (List PC)) (full7 : Bool) (n8 : Int) (k0 : Bool → (List (List PC)) → Bool → Int → Prop) : Prop where
  run : f79_d s1 n2 n3 es4 full5 es6 full7 n8 k0
noncomputable def f79_tab : List (Nat × Told) := []
noncomputable def f79_call : FuncId → List TV → List Entry → (TV → List Entry → Prop) → Prop := noCalls
noncomputable def f79_C : Ctx := { ty := tyOf tab, glob := glob, byRef := byRef, keep := fun k i => lookN [] (lookN [] ([] : List (Nat × List (Nat × List Nat))) k) i, late := lookN [] ([] : List (Nat × List Nat)), nref := lookN [] ([] : List (Nat × List Nat)), nbox := lookN [] ([] : List (Nat × List (Nat × Nat))), take := [], rnil := false, m := 2, fz := true, loops := lookL f79_tab, call := f79_call }
noncomputable def f79_G0 : List TV → List Entry → (TV → List Entry → Prop) → Prop := fun tm hp K => getS [.v (.pagg [.str, .int .i64, .int .i64, .sl 5]), .v (.one (.ptr 0 0 0)), .v (.one (.ptr 1 0 0))] [.box [.sl 9], .box [.int .i64]] tm hp fun (xx : ((ByteArray × (Int × (Int × ((List (List PC) × Bool) × Unit)))) × (Unit × (Unit × Unit)))) (yy : (((List (List PC) × Bool) × Unit) × ((Int × Unit) × Unit))) => f79 xx.1.1 xx.1.2.1 xx.1.2.2.1 xx.1.2.2.2.1.1 xx.1.2.2.2.1.2 yy.1.1.1 yy.1.1.2 yy.2.1.1 (fun b0_0 es0_1 full0_2 n0_3 => K (B b0_0) [.box [.p (.sl 9 es0_1 full0_2)], .box [.p (pI n0_3)]])
set_option maxRecDepth 100000 in
theorem f79_eq (s_4 : ByteArray) (n_5 : Int) (n_6 : Int) (es_7 : List (List PC)) (full_8 : Bool) (es_9 : List (List PC)) (full_10 : Bool) (n_11 : Int) (K : TV → List Entry → Prop) : (f79_d s_4 n_5 n_6 es_7 full_8 es_9 full_10 n_11 (fun b0_0 es0_1 full0_2 n0_3 => K (B b0_0) [.box [.p (.sl 9 es0_1 full0_2)], .box [.p (pI n0_3)]])) = funcT f79_C Tryd.f79 [.w (.pagg [pS s_4, pI n_5, pI n_6, .sl 5 es_7 full_8]), .w (.one (.ptr 0 0 0)), .w (.one (.ptr 1 0 0))] [.box [.p (.sl 9 es_9 full_10)], .box [.p (pI n_11)]] K := by kernel_rfl
set_option maxHeartbeats 4000000 in
theorem f79_ok0 : FnOk Tryd.prog glob 79 f79_G0 := by
  refine FnOk.of_text (C := f79_C) tab_ok.ok (Known.none) follows_ok (fn := Tryd.f79) (by kernel_rfl) (by kernel_rfl) (by kernel_rfl) (fun c hc => ?_) fun tm hp K h => ?_
  · have e : c = bodyOf Tryd.f79 := Option.some.inj (hc.symm.trans (by kernel_rfl))
    subst e
    exact ⟨LoopsOk.of [] (by kernel_rfl) trivial, TailsOk.of (tab := f79_tab) rfl [] (by kernel_rfl) trivial⟩
  · unfold f79_G0 at h
    obtain ⟨xx, yy, rfl, rfl, h⟩ := getS_elim h
    have e := (f79_eq xx.1.1 xx.1.2.1 xx.1.2.2.1 xx.1.2.2.2.1.1 xx.1.2.2.2.1.2 yy.1.1.1 yy.1.1.2 yy.2.1.1 K).trans (show _ = funcT f79_C Tryd.f79 (mkR _ xx) (mkE _ yy) K by kernel_rfl)
    rw [← e]
    exact h.run
noncomputable abbrev f79_G := f79_G0
theorem f79_G_ok : FnOk Tryd.prog glob 79 f79_G := f79_ok0
end Go.Eng.N
set_option linter.unusedVariables false
set_option maxRecDepth 100000
open Go Go.Eng Go.Proofs
namespace Go.Eng.N
/-! ### f78: slices.IndexFunc(()plenum/api.Class,plenum/api.Class) -/
noncomputable def f78_p4b0 (es6 : List (List PC)) (full7 : Bool) (n8 : Int) (n9 : Int) (es10 : List (List PC)) (full11 : Bool) (n12 : Int) (N0 : Int → (List (List PC)) → Bool → Int → Prop) (k0 : Int → (List (List PC)) → Bool → Int → Prop) (k1 : (List (List PC)) → Bool → Int → Prop) : Prop := bB (decide (n9 < n8)) ((0 ≤ n9 ∧ n9 < ((es6.length : Nat) : Int)) ∧ cS (ext (List.getD es6 (Int.toNat n9) []) 0 4) fun s14 r13 => cI .i64 r13 fun n16 r15 => cI .i64 r15 fun n18 r17 => cL 5 r17 fun es20 full21 r19 => nilC r19 <| f79 s14 n16 n18 es20 full21 es10 full11 n12 (fun b22 es23 full24 n25 => bB b22 (k0 n9 es23 full24 n25) (N0 (w64 (n9 + 1)) es23 full24 n25))) (k1 es10 full11 n12)
noncomputable def f78_p4 (es6 : List (List PC)) (full7 : Bool) (n8 : Int) (k0 : Int → (List (List PC)) → Bool → Int → Prop) (k1 : (List (List PC)) → Bool → Int → Prop) : Int × (List (List PC)) × Bool × Int → Prop := LoopP fun x N => f78_p4b0 es6 full7 n8 x.1 x.2.1 x.2.2.1 x.2.2.2 (fun n9 es10 full11 n12 => N (n9, es10, full11, n12)) k0 k1
noncomputable def f78_d (es1 : List (List PC)) (full2 : Bool) (es3 : List (List PC)) (full4 : Bool) (n5 : Int) (k0 : Int → (List (List PC)) → Bool → Int → Prop) : Prop := f78_p4 es1 full2 ((es1.length : Nat) : Int) (fun n26 es27 full28 n29 => k0 n26 es27 full28 n29) (fun es30 full31 n32 => k0 (-1) es30 full31 n32) (0, es3, full4, n5)
structure f78 (es1 : List (List PC)) (full2 : Bool) (es3 : List (List PC)) (full4 : Bool) (n5 : Int) (k0 : Int → (List (List PC)) → Bool → Int → Prop) : Prop where
  run : f78_d es1 full2 es3 full4 n5 k0
noncomputable def f78_p4L : Told := fun s K => match s with
  | ⟨tm, hp⟩ => getS [.v (.one (.sl 4)), .v (.clo 79 [] [.ptr 0 0 0, .ptr 1 0 0]), .skip 5, .v (.one (.int .i64)), .v (.one (.int .i64)), .skip 10] [.box [.sl 9], .box [.int .i64]] tm hp fun (xx : ((List (List PC) × Bool) × ((Unit × (Unit × (Unit × Unit))) × (Unit × (Int × (Int × (Unit × Unit))))))) (yy : (((List (List PC) × Bool) × Unit) × ((Int × Unit) × Unit))) => f78_p4 xx.1.1 xx.1.2 xx.2.2.2.1 (fun n0_0 es0_1 full0_2 n0_3 => K .ret ⟨mkS 19 [(4, I n0_0)], [.box [.p (.sl 9 es0_1 full0_2)], .box [.p (pI n0_3)]]⟩) (fun es1_4 full1_5 n1_6 => K (.exit 0) ⟨mkS 19 [], [.box [.p (.sl 9 es1_4 full1_5)], .box [.p (pI n1_6)]]⟩) (xx.2.2.2.2.1, yy.1.1.1, yy.1.1.2, yy.2.1.1)
noncomputable def f78_tab : List (Nat × Told) := [(4, f78_p4L)]
noncomputable def f78_call : FuncId → List TV → List Entry → (TV → List Entry → Prop) → Prop := addCall 79 f79_G (noCalls)
noncomputable def f78_C : Ctx := { ty := tyOf tab, glob := glob, byRef := byRef, keep := fun k i => lookN [] (lookN [] ([(4, [(0, [0, 1, 7, 8]), (2, [4]), (3, [])])] : List (Nat × List (Nat × List Nat))) k) i, late := lookN [] ([] : List (Nat × List Nat)), nref := lookN [] ([] : List (Nat × List Nat)), nbox := lookN [] ([] : List (Nat × List (Nat × Nat))), take := [], rnil := false, m := 2, fz := true, loops := lookL f78_tab, call := f78_call }
noncomputable def f78_p4_mk (es6 : List (List PC)) (full7 : Bool) (n8 : Int) (x : Int × (List (List PC)) × Bool × Int) : St := ⟨mkS 19 [(0, .w (.one (.p (.sl 4 es6 full7)))), (1, .w (.one (.clo 79 [] [.ptr 0 0 0, .ptr 1 0 0]))), (7, I n8), (8, I x.1)], [.box [.p (.sl 9 x.2.1 x.2.2.1)], .box [.p (pI x.2.2.2)]]⟩
set_option maxRecDepth 100000 in
theorem f78_p4e0 (es_18 : List (List PC)) (full_19 : Bool) (n_20 : Int) (n_21 : Int) (es_22 : List (List PC)) (full_23 : Bool) (n_24 : Int) (N : St → Prop) (K : TExit → St → Prop) : (f78_p4b0 es_18 full_19 n_20 n_21 es_22 full_23 n_24 (fun z3 z4 z5 z6 => N (f78_p4_mk es_18 full_19 n_20 (z3, z4, z5, z6))) (fun n0_25 es0_26 full0_27 n0_28 => K .ret ⟨mkS 19 [(4, I n0_25)], [.box [.p (.sl 9 es0_26 full0_27)], .box [.p (pI n0_28)]]⟩) (fun es1_29 full1_30 n1_31 => K (.exit 0) ⟨mkS 19 [], [.box [.p (.sl 9 es1_29 full1_30)], .box [.p (pI n1_31)]]⟩)) = execT f78_C (nthC (bodies (bodyOf Tryd.f78)) 0) (f78_p4_mk es_18 full_19 n_20 (n_21, es_22, full_23, n_24)) (loopK N (normK f78_C 4) fun e s => K e (normOut f78_C 4 e s)) := by kernel_rfl
set_option maxHeartbeats 4000000 in
theorem f78_p4_ok : LoopOk f78_C (nthC (bodies (bodyOf Tryd.f78)) 0) := by
  refine LoopOk.of f78_p4L (by kernel_rfl) fun σ K h => ?_
  have hk : loopKey (nthC (bodies (bodyOf Tryd.f78)) 0) = 4 := by kernel_rfl
  rw [hk] at h ⊢
  generalize hs : normK f78_C 4 σ = s at h
  obtain ⟨tm, hp⟩ := s
  unfold f78_p4L at h
  dsimp only at h
  obtain ⟨xx, yy, rfl, rfl, h⟩ := getS_elim h
  refine iter_of (f78_p4_mk xx.1.1 xx.1.2 xx.2.2.2.1) (fun x N h => ?_) rounds _ σ (hs.trans (by kernel_rfl)) (LoopP.run h)
  obtain ⟨y0, y1, y2, y3⟩ := x
  rw [← f78_p4e0 xx.1.1 xx.1.2 xx.2.2.2.1 y0 y1 y2 y3 N K]
  exact h
noncomputable def f78_G0 : List TV → List Entry → (TV → List Entry → Prop) → Prop := fun tm hp K => getS [.v (.one (.sl 4)), .v (.clo 79 [] [.ptr 0 0 0, .ptr 1 0 0])] [.box [.sl 9], .box [.int .i64]] tm hp fun (xx : ((List (List PC) × Bool) × ((Unit × (Unit × (Unit × Unit))) × Unit))) (yy : (((List (List PC) × Bool) × Unit) × ((Int × Unit) × Unit))) => f78 xx.1.1 xx.1.2 yy.1.1.1 yy.1.1.2 yy.2.1.1 (fun n0_7 es0_8 full0_9 n0_10 => K (I n0_7) [.box [.p (.sl 9 es0_8 full0_9)], .box [.p (pI n0_10)]])
set_option maxRecDepth 100000 in
theorem f78_eq (es_32 : List (List PC)) (full_33 : Bool) (es_34 : List (List PC)) (full_35 : Bool) (n_36 : Int) (K : TV → List Entry → Prop) : (f78_d es_32 full_33 es_34 full_35 n_36 (fun n0_7 es0_8 full0_9 n0_10 => K (I n0_7) [.box [.p (.sl 9 es0_8 full0_9)], .box [.p (pI n0_10)]])) = funcT f78_C Tryd.f78 [.w (.one (.p (.sl 4 es_32 full_33))), .w (.one (.clo 79 [] [.ptr 0 0 0, .ptr 1 0 0]))] [.box [.p (.sl 9 es_34 full_35)], .box [.p (pI n_36)]] K := by kernel_rfl
set_option maxHeartbeats 4000000 in
theorem f78_ok0 : FnOk Tryd.prog glob 78 f78_G0 := by
  refine FnOk.of_text (C := f78_C) tab_ok.ok (Known.add f79_G_ok (Known.none)) follows_ok (fn := Tryd.f78) (by kernel_rfl) (by kernel_rfl) (by kernel_rfl) (fun c hc => ?_) fun tm hp K h => ?_
  · have e : c = bodyOf Tryd.f78 := Option.some.inj (hc.symm.trans (by kernel_rfl))
    subst e
    exact ⟨LoopsOk.of [nthC (bodies (bodyOf Tryd.f78)) 0] (by kernel_rfl) ⟨f78_p4_ok, trivial⟩, TailsOk.of (tab := f78_tab) rfl [] (by kernel_rfl) trivial⟩
  · unfold f78_G0 at h
    obtain ⟨xx, yy, rfl, rfl, h⟩ := getS_elim h
    have e := (f78_eq xx.1.1 xx.1.2 yy.1.1.1 yy.1.1.2 yy.2.1.1 K).trans (show _ = funcT f78_C Tryd.f78 (mkR _ xx) (mkE _ yy) K by kernel_rfl)
    rw [← e]
    exact h.run
noncomputable abbrev f78_G := f78_G0
theorem f78_G_ok : FnOk Tryd.prog glob 78 f78_G := f78_ok0
end Go.Eng.N
set_option linter.unusedVariables false
set_option maxRecDepth 100000
open Go Go.Eng Go.Proofs
namespace Go.Eng.N
/-! ### f34: plenum/notify.Route -/
noncomputable def f34_p4b0 (es7 : List (List PC)) (full8 : Bool) (es9 : List (List PC)) (full10 : Bool) (es11 : List (List PC)) (full12 : Bool) (n13 : Int) (n14 : Int) (es15 : List (List PC)) (full16 : Bool) (N0 : Int → Prop) (k0 : Int → Prop) (k1 : Unit → Prop) : Prop := bB (decide (n14 < n13)) ((0 ≤ n14 ∧ n14 < ((es11.length : Nat) : Int)) ∧ cS (ext (List.getD es11 (Int.toNat n14) []) 0 4) fun s18 r17 => cI .i64 r17 fun n20 r19 => cI .i64 r19 fun n22 r21 => cL 5 r21 fun es24 full25 r23 => nilC r23 <| f16 s18 n20 n22 es24 full25 (fun n26 => bB (n26 != 0) (k0 n26) (N0 (w64 (n14 + 1))))) (k1 ())
noncomputable def f34_p4 (es7 : List (List PC)) (full8 : Bool) (es9 : List (List PC)) (full10 : Bool) (es11 : List (List PC)) (full12 : Bool) (n13 : Int) (es15 : List (List PC)) (full16 : Bool) (k0 : Int → Prop) (k1 : Unit → Prop) : Int → Prop := LoopP fun x N => f34_p4b0 es7 full8 es9 full10 es11 full12 n13 x es15 full16 (fun n14 => N n14) k0 k1
noncomputable def f34_p20b0 (es28 : List (List PC)) (full29 : Bool) (i30 : Nat) (n31 : Nat) (es32 : List (List PC)) (full33 : Bool) (n34 : Int) (n35 : Int) (es36 : List (List PC)) (full37 : Bool) (es38 : List (List PC)) (N0 : Nat → Nat → Int → (List (List PC)) → Bool → (List (List PC)) → Prop) (k0 : Int → Prop) (k1 : Nat → Nat → (List (List PC)) → Prop) : Prop := bB (decide (n35 < n34)) ((0 ≤ n35 ∧ n35 < ((es32.length : Nat) : Int)) ∧ cI .i64 (ext (List.getD es32 (Int.toNat n35) []) 0 7) fun n40 r39 => cS r39 fun s42 r41 => cI .i64 r41 fun n44 r43 => cI .i64 r43 fun n46 r45 => cI .i64 r45 fun n48 r47 => cI .i64 r47 fun n50 r49 => cI .i64 r49 fun n52 r51 => nilC r51 <| f76 es36 full37 n40 s42 n44 n46 n48 n50 n52 (fun n53 n54 s55 n56 n57 n58 n59 n60 => bB (decide (n53 < 0)) (k0 3) (f78 es28 full29 es36 full37 n53 (fun n61 es62 full63 n64 => bB (decide (n61 < 0)) (k0 3) (f51 n56 n58 (fun n65 => bB (n65 != 0) (k0 n65) ((0 ≤ n61 ∧ n61 < ((es28.length : Nat) : Int)) ∧ cS (ext (List.getD es28 (Int.toNat n61) []) 0 4) fun s67 r66 => cI .i64 r66 fun n69 r68 => cI .i64 r68 fun n71 r70 => cL 5 r70 fun es73 full74 r72 => nilC r72 <| f55 s67 n69 n71 es73 full74 n54 s55 n56 n57 n58 n59 n60 (fun es75 full76 => (i30 + n31) = es38.length ∧ (n31 + es75.length) * 96 ≤ 2 ^ 46 ∧ (n31 + es75.length) ≤ 2 ^ 46 ∧ N0 0 (n31 + es75.length) (w64 (n35 + 1)) es62 full63 (List.drop i30 es38 ++ es75))))))))) (k1 i30 n31 es38)
noncomputable def f34_p20 (es28 : List (List PC)) (full29 : Bool) (es32 : List (List PC)) (full33 : Bool) (n34 : Int) (k0 : Int → Prop) (k1 : Nat → Nat → (List (List PC)) → Prop) : Nat × Nat × Int × (List (List PC)) × Bool × (List (List PC)) → Prop := LoopP fun x N => f34_p20b0 es28 full29 x.1 x.2.1 es32 full33 n34 x.2.2.1 x.2.2.2.1 x.2.2.2.2.1 x.2.2.2.2.2 (fun i30 n31 n35 es36 full37 es38 => N (i30, n31, n35, es36, full37, es38)) k0 k1
noncomputable def f34_d (es1 : List (List PC)) (full2 : Bool) (es3 : List (List PC)) (full4 : Bool) (es5 : List (List PC)) (full6 : Bool) (k0 : (List (List PC)) → Bool → Int → Prop) : Prop := f34_p4 es1 full2 es5 full6 es1 full2 ((es1.length : Nat) : Int) es3 full4 (fun n27 => k0 [] true n27) (fun (_ : Unit) => f34_p20 es1 full2 es5 full6 ((es5.length : Nat) : Int) (fun n77 => k0 [] true n77) (fun i78 n79 es80 => f80 i78 n79 es80 (fun es81 => k0 (List.take n79 (List.drop i78 es81)) false 0)) (0, 0, 0, es3, full4, [])) 0
structure f34 (es1 : List (List PC)) (full2 : Bool) (es3 : List (List PC)) (full4 : Bool) (es5 : List (List PC)) (full6 : Bool) (k0 : (List (List PC)) → Bool → Int → Prop) : Prop where
  run : f34_d es1 full2 es3 full4 es5 full6 k0
noncomputable def f34_p4L : Told := fun s K => match s with
  | ⟨tm, hp⟩ => getS [.v (.one (.sl 4)), .skip 1, .v (.one (.sl 7)), .skip 1, .v (.one (.ptr 0 0 0)), .skip 12, .v (.one (.sl 4)), .v (.one (.int .i64)), .v (.one (.int .i64)), .skip 45] [.box [.sl 9]] tm hp fun (xx : ((List (List PC) × Bool) × (Unit × ((List (List PC) × Bool) × (Unit × (Unit × (Unit × ((List (List PC) × Bool) × (Int × (Int × (Unit × Unit))))))))))) (yy : (((List (List PC) × Bool) × Unit) × Unit)) => f34_p4 xx.1.1 xx.1.2 xx.2.2.1.1 xx.2.2.1.2 xx.2.2.2.2.2.2.1.1 xx.2.2.2.2.2.2.1.2 xx.2.2.2.2.2.2.2.1 yy.1.1.1 yy.1.1.2 (fun n0_0 => K .ret ⟨mkS 65 [(6, .w (.one (.p (.sl 10 [] true)))), (7, I n0_0)], []⟩) (fun (_ : Unit) => K (.exit 0) ⟨mkS 65 [(0, .w (.one (.p (.sl 4 xx.1.1 xx.1.2)))), (2, .w (.one (.p (.sl 7 xx.2.2.1.1 xx.2.2.1.2)))), (4, .w (.one (.ptr 0 0 0)))], [.box [.p (.sl 9 yy.1.1.1 yy.1.1.2)]]⟩) xx.2.2.2.2.2.2.2.2.1
noncomputable def f34_p20L : Told := fun s K => match s with
  | ⟨tm, hp⟩ => getS [.v (.one (.sl 4)), .skip 3, .v (.one (.ptr 0 0 0)), .skip 6, .v (.one (.ref 1)), .skip 17, .v (.one (.sl 7)), .v (.one (.int .i64)), .v (.one (.int .i64)), .skip 33] [.box [.sl 9], .vec 10 true] tm hp fun (xx : ((List (List PC) × Bool) × (Unit × (Unit × (Unit × ((Nat × Nat) × (Unit × ((List (List PC) × Bool) × (Int × (Int × (Unit × Unit))))))))))) (yy : (((List (List PC) × Bool) × Unit) × ((List (List PC)) × Unit))) => f34_p20 xx.1.1 xx.1.2 xx.2.2.2.2.2.2.1.1 xx.2.2.2.2.2.2.1.2 xx.2.2.2.2.2.2.2.1 (fun n0_1 => K .ret ⟨mkS 65 [(6, .w (.one (.p (.sl 10 [] true)))), (7, I n0_1)], []⟩) (fun i1_2 n1_3 es1_4 => K (.exit 2) ⟨mkS 65 [(11, .w (.one (.ref 0 i1_2 n1_3)))], [.vec 10 es1_4 true]⟩) (xx.2.2.2.2.1.1, xx.2.2.2.2.1.2, xx.2.2.2.2.2.2.2.2.1, yy.1.1.1, yy.1.1.2, yy.2.1)
noncomputable def f34_tab : List (Nat × Told) := [(4, f34_p4L), (20, f34_p20L)]
noncomputable def f34_call : FuncId → List TV → List Entry → (TV → List Entry → Prop) → Prop := addCall 80 f80_G (addCall 78 f78_G (addCall 76 f76_G (addCall 55 f55_G (addCall 51 f51_G (addCall 16 f16_G (noCalls))))))
noncomputable def f34_C : Ctx := { ty := tyOf tab, glob := glob, byRef := byRef, keep := fun k i => lookN [] (lookN [] ([(4, [(0, [0, 2, 4, 17, 18, 19]), (2, [6, 7]), (3, [0, 2, 4])]), (20, [(0, [0, 4, 11, 29, 30, 31]), (2, [6, 7]), (5, [11])])] : List (Nat × List (Nat × List Nat))) k) i, late := lookN [] ([] : List (Nat × List Nat)), nref := lookN [] ([(20, [11])] : List (Nat × List Nat)), nbox := lookN [] ([] : List (Nat × List (Nat × Nat))), take := [], rnil := false, m := 0, fz := true, loops := lookL f34_tab, call := f34_call }
noncomputable def f34_p4_mk (es7 : List (List PC)) (full8 : Bool) (es9 : List (List PC)) (full10 : Bool) (es11 : List (List PC)) (full12 : Bool) (n13 : Int) (es15 : List (List PC)) (full16 : Bool) (x : Int) : St := ⟨mkS 65 [(0, .w (.one (.p (.sl 4 es7 full8)))), (2, .w (.one (.p (.sl 7 es9 full10)))), (4, .w (.one (.ptr 0 0 0))), (17, .w (.one (.p (.sl 4 es11 full12)))), (18, I n13), (19, I x)], [.box [.p (.sl 9 es15 full16)]]⟩
set_option maxRecDepth 100000 in
theorem f34_p4e0 (es_18 : List (List PC)) (full_19 : Bool) (es_20 : List (List PC)) (full_21 : Bool) (es_22 : List (List PC)) (full_23 : Bool) (n_24 : Int) (n_25 : Int) (es_26 : List (List PC)) (full_27 : Bool) (N : St → Prop) (K : TExit → St → Prop) : (f34_p4b0 es_18 full_19 es_20 full_21 es_22 full_23 n_24 n_25 es_26 full_27 (fun z7 => N (f34_p4_mk es_18 full_19 es_20 full_21 es_22 full_23 n_24 es_26 full_27 z7)) (fun n0_28 => K .ret ⟨mkS 65 [(6, .w (.one (.p (.sl 10 [] true)))), (7, I n0_28)], []⟩) (fun (_ : Unit) => K (.exit 0) ⟨mkS 65 [(0, .w (.one (.p (.sl 4 es_18 full_19)))), (2, .w (.one (.p (.sl 7 es_20 full_21)))), (4, .w (.one (.ptr 0 0 0)))], [.box [.p (.sl 9 es_26 full_27)]]⟩)) = execT f34_C (nthC (bodies (bodyOf Tryd.f34)) 0) (f34_p4_mk es_18 full_19 es_20 full_21 es_22 full_23 n_24 es_26 full_27 n_25) (loopK N (normK f34_C 4) fun e s => K e (normOut f34_C 4 e s)) := by kernel_rfl
noncomputable def f34_p20_mk (es28 : List (List PC)) (full29 : Bool) (es32 : List (List PC)) (full33 : Bool) (n34 : Int) (x : Nat × Nat × Int × (List (List PC)) × Bool × (List (List PC))) : St := ⟨mkS 65 [(0, .w (.one (.p (.sl 4 es28 full29)))), (4, .w (.one (.ptr 0 0 0))), (11, .w (.one (.ref 1 x.1 x.2.1))), (29, .w (.one (.p (.sl 7 es32 full33)))), (30, I n34), (31, I x.2.2.1)], [.box [.p (.sl 9 x.2.2.2.1 x.2.2.2.2.1)], .vec 10 x.2.2.2.2.2 true]⟩
set_option maxRecDepth 100000 in
theorem f34_p20e0 (es_40 : List (List PC)) (full_41 : Bool) (i_42 : Nat) (n_43 : Nat) (es_44 : List (List PC)) (full_45 : Bool) (n_46 : Int) (n_47 : Int) (es_48 : List (List PC)) (full_49 : Bool) (es_50 : List (List PC)) (N : St → Prop) (K : TExit → St → Prop) : (f34_p20b0 es_40 full_41 i_42 n_43 es_44 full_45 n_46 n_47 es_48 full_49 es_50 (fun z2 z3 z7 z8 z9 z10 => N (f34_p20_mk es_40 full_41 es_44 full_45 n_46 (z2, z3, z7, z8, z9, z10))) (fun n0_51 => K .ret ⟨mkS 65 [(6, .w (.one (.p (.sl 10 [] true)))), (7, I n0_51)], []⟩) (fun i1_52 n1_53 es1_54 => K (.exit 2) ⟨mkS 65 [(11, .w (.one (.ref 0 i1_52 n1_53)))], [.vec 10 es1_54 true]⟩)) = execT f34_C (nthC (bodies (bodyOf Tryd.f34)) 1) (f34_p20_mk es_40 full_41 es_44 full_45 n_46 (i_42, n_43, n_47, es_48, full_49, es_50)) (loopK N (normK f34_C 20) fun e s => K e (normOut f34_C 20 e s)) := by kernel_rfl
set_option maxHeartbeats 4000000 in
theorem f34_p4_ok : LoopOk f34_C (nthC (bodies (bodyOf Tryd.f34)) 0) := by
  refine LoopOk.of f34_p4L (by kernel_rfl) fun σ K h => ?_
  have hk : loopKey (nthC (bodies (bodyOf Tryd.f34)) 0) = 4 := by kernel_rfl
  rw [hk] at h ⊢
  generalize hs : normK f34_C 4 σ = s at h
  obtain ⟨tm, hp⟩ := s
  unfold f34_p4L at h
  dsimp only at h
  obtain ⟨xx, yy, rfl, rfl, h⟩ := getS_elim h
  refine iter_of (f34_p4_mk xx.1.1 xx.1.2 xx.2.2.1.1 xx.2.2.1.2 xx.2.2.2.2.2.2.1.1 xx.2.2.2.2.2.2.1.2 xx.2.2.2.2.2.2.2.1 yy.1.1.1 yy.1.1.2) (fun x N h => ?_) rounds _ σ (hs.trans (by kernel_rfl)) (LoopP.run h)
  rw [← f34_p4e0 xx.1.1 xx.1.2 xx.2.2.1.1 xx.2.2.1.2 xx.2.2.2.2.2.2.1.1 xx.2.2.2.2.2.2.1.2 xx.2.2.2.2.2.2.2.1 x yy.1.1.1 yy.1.1.2 N K]
  exact h
set_option maxHeartbeats 4000000 in
theorem f34_p20_ok : LoopOk f34_C (nthC (bodies (bodyOf Tryd.f34)) 1) := by
  refine LoopOk.of f34_p20L (by kernel_rfl) fun σ K h => ?_
  have hk : loopKey (nthC (bodies (bodyOf Tryd.f34)) 1) = 20 := by kernel_rfl
  rw [hk] at h ⊢
  generalize hs : normK f34_C 20 σ = s at h
  obtain ⟨tm, hp⟩ := s
  unfold f34_p20L at h
  dsimp only at h
  obtain ⟨xx, yy, rfl, rfl, h⟩ := getS_elim h
  refine iter_of (f34_p20_mk xx.1.1 xx.1.2 xx.2.2.2.2.2.2.1.1 xx.2.2.2.2.2.2.1.2 xx.2.2.2.2.2.2.2.1) (fun x N h => ?_) rounds _ σ (hs.trans (by kernel_rfl)) (LoopP.run h)
  obtain ⟨y0, y1, y2, y3, y4, y5⟩ := x
  rw [← f34_p20e0 xx.1.1 xx.1.2 y0 y1 xx.2.2.2.2.2.2.1.1 xx.2.2.2.2.2.2.1.2 xx.2.2.2.2.2.2.2.1 y2 y3 y4 y5 N K]
  exact h
noncomputable def f34_G0 : List TV → List Entry → (TV → List Entry → Prop) → Prop := fun tm hp K => getS [.v (.one (.sl 4)), .v (.one (.sl 9)), .v (.one (.sl 7))] [] tm hp fun (xx : ((List (List PC) × Bool) × ((List (List PC) × Bool) × ((List (List PC) × Bool) × Unit)))) (yy : Unit) => f34 xx.1.1 xx.1.2 xx.2.1.1 xx.2.1.2 xx.2.2.1.1 xx.2.2.1.2 (fun es0_5 full0_6 n0_7 => K (.tup [.one (.p (.sl 10 es0_5 full0_6)), .one (.p (pI n0_7))]) [])
set_option maxRecDepth 100000 in
theorem f34_eq (es_55 : List (List PC)) (full_56 : Bool) (es_57 : List (List PC)) (full_58 : Bool) (es_59 : List (List PC)) (full_60 : Bool) (K : TV → List Entry → Prop) : (f34_d es_55 full_56 es_57 full_58 es_59 full_60 (fun es0_5 full0_6 n0_7 => K (.tup [.one (.p (.sl 10 es0_5 full0_6)), .one (.p (pI n0_7))]) [])) = funcT f34_C Tryd.f34 [.w (.one (.p (.sl 4 es_55 full_56))), .w (.one (.p (.sl 9 es_57 full_58))), .w (.one (.p (.sl 7 es_59 full_60)))] [] K := by kernel_rfl
set_option maxHeartbeats 4000000 in
theorem f34_ok0 : FnOk Tryd.prog glob 34 f34_G0 := by
  refine FnOk.of_text (C := f34_C) tab_ok.ok (Known.add f80_G_ok (Known.add f78_G_ok (Known.add f76_G_ok (Known.add f55_G_ok (Known.add f51_G_ok (Known.add f16_G_ok (Known.none))))))) follows_ok (fn := Tryd.f34) (by kernel_rfl) (by kernel_rfl) (by kernel_rfl) (fun c hc => ?_) fun tm hp K h => ?_
  · have e : c = bodyOf Tryd.f34 := Option.some.inj (hc.symm.trans (by kernel_rfl))
    subst e
    exact ⟨LoopsOk.of [nthC (bodies (bodyOf Tryd.f34)) 0, nthC (bodies (bodyOf Tryd.f34)) 1] (by kernel_rfl) ⟨f34_p4_ok, f34_p20_ok, trivial⟩, TailsOk.of (tab := f34_tab) rfl [] (by kernel_rfl) trivial⟩
  · unfold f34_G0 at h
    obtain ⟨xx, yy, rfl, rfl, h⟩ := getS_elim h
    have e := (f34_eq xx.1.1 xx.1.2 xx.2.1.1 xx.2.1.2 xx.2.2.1.1 xx.2.2.1.2 K).trans (show _ = funcT f34_C Tryd.f34 (mkR _ xx) (mkE _ yy) K by kernel_rfl)
    rw [← e]
    exact h.run
noncomputable abbrev f34_G := f34_G0
theorem f34_G_ok : FnOk Tryd.prog glob 34 f34_G := f34_ok0
end Go.Eng.N
set_option linter.unusedVariables false
set_option maxRecDepth 100000
open Go Go.Eng Go.Proofs
namespace Go.Eng.N
/-! ### f83: plenum/plenumref39.class -/
noncomputable def f83_p12b0 (es13 : List (List PC)) (full14 : Bool) (es15 : List (List PC)) (full16 : Bool) (n17 : Int) (n18 : Int) (N0 : Int → Prop) (k0 : Int → Prop) (k1 : Unit → Prop) : Prop := bB (decide (n18 < ((es13.length : Nat) : Int))) ((0 ≤ n18 ∧ n18 < ((es13.length : Nat) : Int)) ∧ oS (ext (List.getD es13 (Int.toNat n18) []) 0 1) fun s19 => (0 ≤ n17 ∧ n17 < ((es15.length : Nat) : Int)) ∧ oS (ext (List.getD es15 (Int.toNat n17) []) 8 1) fun s20 => bB (s19.toList == s20.toList) (k0 n18) (N0 (w64 (n18 + 1)))) (k1 ())
noncomputable def f83_p12 (es13 : List (List PC)) (full14 : Bool) (es15 : List (List PC)) (full16 : Bool) (n17 : Int) (k0 : Int → Prop) (k1 : Unit → Prop) : Int → Prop := LoopP fun x N => f83_p12b0 es13 full14 es15 full16 n17 x (fun n18 => N n18) k0 k1
noncomputable def f83_p4b0 (es6 : List (List PC)) (full7 : Bool) (es8 : List (List PC)) (full9 : Bool) (s10 : ByteArray) (n11 : Int) (N0 : Int → Prop) (k0 : Int → Prop) (k1 : Unit → Prop) : Prop := bB (decide (n11 < ((es8.length : Nat) : Int))) ((0 ≤ n11 ∧ n11 < ((es8.length : Nat) : Int)) ∧ oS (ext (List.getD es8 (Int.toNat n11) []) 1 1) fun s12 => bB (!(s12.toList == s10.toList)) (N0 (w64 (n11 + 1))) (f83_p12 es6 full7 es8 full9 n11 (fun n21 => k0 n21) (fun (_ : Unit) => k0 (-1)) 0)) (k1 ())
noncomputable def f83_p4 (es6 : List (List PC)) (full7 : Bool) (es8 : List (List PC)) (full9 : Bool) (s10 : ByteArray) (k0 : Int → Prop) (k1 : Unit → Prop) : Int → Prop := LoopP fun x N => f83_p4b0 es6 full7 es8 full9 s10 x (fun n11 => N n11) k0 k1
noncomputable def f83_d (es1 : List (List PC)) (full2 : Bool) (es3 : List (List PC)) (full4 : Bool) (s5 : ByteArray) (k0 : Int → Prop) : Prop := f83_p4 es1 full2 es3 full4 s5 (fun n22 => k0 n22) (fun (_ : Unit) => k0 (-1)) 0
structure f83 (es1 : List (List PC)) (full2 : Bool) (es3 : List (List PC)) (full4 : Bool) (s5 : ByteArray) (k0 : Int → Prop) : Prop where
  run : f83_d es1 full2 es3 full4 s5 k0
noncomputable def f83_p12L : Told := fun s K => match s with
  | ⟨tm, hp⟩ => getS [.v (.one (.sl 4)), .v (.one (.sl 9)), .skip 5, .v (.one (.int .i64)), .v (.one (.int .i64)), .skip 31] [] tm hp fun (xx : ((List (List PC) × Bool) × ((List (List PC) × Bool) × (Unit × (Int × (Int × (Unit × Unit))))))) (yy : Unit) => f83_p12 xx.1.1 xx.1.2 xx.2.1.1 xx.2.1.2 xx.2.2.2.1 (fun n0_0 => K .ret ⟨mkS 40 [(6, I n0_0)], []⟩) (fun (_ : Unit) => K (.exit 2) ⟨mkS 40 [], []⟩) xx.2.2.2.2.1
noncomputable def f83_p4L : Told := fun s K => match s with
  | ⟨tm, hp⟩ => getS [.v (.one (.sl 4)), .v (.one (.sl 9)), .v (.one (.str)), .skip 4, .v (.one (.int .i64)), .skip 32] [] tm hp fun (xx : ((List (List PC) × Bool) × ((List (List PC) × Bool) × (ByteArray × (Unit × (Int × (Unit × Unit))))))) (yy : Unit) => f83_p4 xx.1.1 xx.1.2 xx.2.1.1 xx.2.1.2 xx.2.2.1 (fun n0_1 => K .ret ⟨mkS 40 [(6, I n0_1)], []⟩) (fun (_ : Unit) => K (.exit 0) ⟨mkS 40 [], []⟩) xx.2.2.2.2.1
noncomputable def f83_tab : List (Nat × Told) := [(12, f83_p12L), (4, f83_p4L)]
noncomputable def f83_call : FuncId → List TV → List Entry → (TV → List Entry → Prop) → Prop := noCalls
noncomputable def f83_C : Ctx := { ty := tyOf tab, glob := glob, byRef := byRef, keep := fun k i => lookN [] (lookN [] ([(12, [(0, [0, 1, 7, 8]), (2, [6]), (3, []), (4, [0, 1, 2, 7]), (5, [])]), (4, [(0, [0, 1, 2, 7]), (2, [6]), (3, [])])] : List (Nat × List (Nat × List Nat))) k) i, late := lookN [] ([] : List (Nat × List Nat)), nref := lookN [] ([] : List (Nat × List Nat)), nbox := lookN [] ([] : List (Nat × List (Nat × Nat))), take := [], rnil := false, m := 0, fz := true, loops := lookL f83_tab, call := f83_call }
noncomputable def f83_p12_mk (es13 : List (List PC)) (full14 : Bool) (es15 : List (List PC)) (full16 : Bool) (n17 : Int) (x : Int) : St := ⟨mkS 40 [(0, .w (.one (.p (.sl 4 es13 full14)))), (1, .w (.one (.p (.sl 9 es15 full16)))), (7, I n17), (8, I x)], []⟩
set_option maxRecDepth 100000 in
theorem f83_p12e0 (es_9 : List (List PC)) (full_10 : Bool) (es_11 : List (List PC)) (full_12 : Bool) (n_13 : Int) (n_14 : Int) (N : St → Prop) (K : TExit → St → Prop) : (f83_p12b0 es_9 full_10 es_11 full_12 n_13 n_14 (fun z5 => N (f83_p12_mk es_9 full_10 es_11 full_12 n_13 z5)) (fun n0_15 => K .ret ⟨mkS 40 [(6, I n0_15)], []⟩) (fun (_ : Unit) => K (.exit 2) ⟨mkS 40 [], []⟩)) = execT f83_C (nthC (bodies (bodyOf Tryd.f83)) 1) (f83_p12_mk es_9 full_10 es_11 full_12 n_13 n_14) (loopK N (normK f83_C 12) fun e s => K e (normOut f83_C 12 e s)) := by kernel_rfl
noncomputable def f83_p4_mk (es6 : List (List PC)) (full7 : Bool) (es8 : List (List PC)) (full9 : Bool) (s10 : ByteArray) (x : Int) : St := ⟨mkS 40 [(0, .w (.one (.p (.sl 4 es6 full7)))), (1, .w (.one (.p (.sl 9 es8 full9)))), (2, S s10), (7, I x)], []⟩
set_option maxRecDepth 100000 in
theorem f83_p4e0 (es_22 : List (List PC)) (full_23 : Bool) (es_24 : List (List PC)) (full_25 : Bool) (s_26 : ByteArray) (n_27 : Int) (N : St → Prop) (K : TExit → St → Prop) : (f83_p4b0 es_22 full_23 es_24 full_25 s_26 n_27 (fun z5 => N (f83_p4_mk es_22 full_23 es_24 full_25 s_26 z5)) (fun n0_28 => K .ret ⟨mkS 40 [(6, I n0_28)], []⟩) (fun (_ : Unit) => K (.exit 0) ⟨mkS 40 [], []⟩)) = execT f83_C (nthC (bodies (bodyOf Tryd.f83)) 0) (f83_p4_mk es_22 full_23 es_24 full_25 s_26 n_27) (loopK N (normK f83_C 4) fun e s => K e (normOut f83_C 4 e s)) := by kernel_rfl
set_option maxHeartbeats 4000000 in
theorem f83_p12_ok : LoopOk f83_C (nthC (bodies (bodyOf Tryd.f83)) 1) := by
  refine LoopOk.of f83_p12L (by kernel_rfl) fun σ K h => ?_
  have hk : loopKey (nthC (bodies (bodyOf Tryd.f83)) 1) = 12 := by kernel_rfl
  rw [hk] at h ⊢
  generalize hs : normK f83_C 12 σ = s at h
  obtain ⟨tm, hp⟩ := s
  unfold f83_p12L at h
  dsimp only at h
  obtain ⟨xx, yy, rfl, rfl, h⟩ := getS_elim h
  refine iter_of (f83_p12_mk xx.1.1 xx.1.2 xx.2.1.1 xx.2.1.2 xx.2.2.2.1) (fun x N h => ?_) rounds _ σ (hs.trans (by kernel_rfl)) (LoopP.run h)
  rw [← f83_p12e0 xx.1.1 xx.1.2 xx.2.1.1 xx.2.1.2 xx.2.2.2.1 x N K]
  exact h
set_option maxHeartbeats 4000000 in
theorem f83_p4_ok : LoopOk f83_C (nthC (bodies (bodyOf Tryd.f83)) 0) := by
  refine LoopOk.of f83_p4L (by kernel_rfl) fun σ K h => ?_
  have hk : loopKey (nthC (bodies (bodyOf Tryd.f83)) 0) = 4 := by kernel_rfl
  rw [hk] at h ⊢
  generalize hs : normK f83_C 4 σ = s at h
  obtain ⟨tm, hp⟩ := s
  unfold f83_p4L at h
  dsimp only at h
  obtain ⟨xx, yy, rfl, rfl, h⟩ := getS_elim h
  refine iter_of (f83_p4_mk xx.1.1 xx.1.2 xx.2.1.1 xx.2.1.2 xx.2.2.1) (fun x N h => ?_) rounds _ σ (hs.trans (by kernel_rfl)) (LoopP.run h)
  rw [← f83_p4e0 xx.1.1 xx.1.2 xx.2.1.1 xx.2.1.2 xx.2.2.1 x N K]
  exact h
noncomputable def f83_G0 : List TV → List Entry → (TV → List Entry → Prop) → Prop := fun tm hp K => getS [.v (.one (.sl 4)), .v (.one (.sl 9)), .v (.one (.str))] [] tm hp fun (xx : ((List (List PC) × Bool) × ((List (List PC) × Bool) × (ByteArray × Unit)))) (yy : Unit) => f83 xx.1.1 xx.1.2 xx.2.1.1 xx.2.1.2 xx.2.2.1 (fun n0_2 => K (I n0_2) [])
set_option maxRecDepth 100000 in
theorem f83_eq (es_29 : List (List PC)) (full_30 : Bool) (es_31 : List (List PC)) (full_32 : Bool) (s_33 : ByteArray) (K : TV → List Entry → Prop) : (f83_d es_29 full_30 es_31 full_32 s_33 (fun n0_2 => K (I n0_2) [])) = funcT f83_C Tryd.f83 [.w (.one (.p (.sl 4 es_29 full_30))), .w (.one (.p (.sl 9 es_31 full_32))), S s_33] [] K := by kernel_rfl
set_option maxHeartbeats 4000000 in
theorem f83_ok0 : FnOk Tryd.prog glob 83 f83_G0 := by
  refine FnOk.of_text (C := f83_C) tab_ok.ok (Known.none) follows_ok (fn := Tryd.f83) (by kernel_rfl) (by kernel_rfl) (by kernel_rfl) (fun c hc => ?_) fun tm hp K h => ?_
  · have e : c = bodyOf Tryd.f83 := Option.some.inj (hc.symm.trans (by kernel_rfl))
    subst e
    exact ⟨LoopsOk.of [nthC (bodies (bodyOf Tryd.f83)) 0, nthC (bodies (bodyOf Tryd.f83)) 1] (by kernel_rfl) ⟨f83_p4_ok, f83_p12_ok, trivial⟩, TailsOk.of (tab := f83_tab) rfl [] (by kernel_rfl) trivial⟩
  · unfold f83_G0 at h
    obtain ⟨xx, yy, rfl, rfl, h⟩ := getS_elim h
    have e := (f83_eq xx.1.1 xx.1.2 xx.2.1.1 xx.2.1.2 xx.2.2.1 K).trans (show _ = funcT f83_C Tryd.f83 (mkR _ xx) (mkE _ yy) K by kernel_rfl)
    rw [← e]
    exact h.run
noncomputable abbrev f83_G := f83_G0
theorem f83_G_ok : FnOk Tryd.prog glob 83 f83_G := f83_ok0
end Go.Eng.N
set_option linter.unusedVariables false
set_option maxRecDepth 100000
open Go Go.Eng Go.Proofs
namespace Go.Eng.N
/-! ### f35: plenum/plenumref39.Route -/
noncomputable def f35_p4b0 (es7 : List (List PC)) (full8 : Bool) (es9 : List (List PC)) (full10 : Bool) (es11 : List (List PC)) (full12 : Bool) (n13 : Int) (N0 : Int → Prop) (k0 : Int → Prop) (k1 : Unit → Prop) : Prop := bB (decide (n13 < ((es7.length : Nat) : Int))) ((0 ≤ n13 ∧ n13 < ((es7.length : Nat) : Int)) ∧ cS (ext (List.getD es7 (Int.toNat n13) []) 0 4) fun s15 r14 => cI .i64 r14 fun n17 r16 => cI .i64 r16 fun n19 r18 => cL 5 r18 fun es21 full22 r20 => nilC r20 <| f17 s15 n17 n19 es21 full22 (fun n23 => bB (n23 != 0) (k0 n23) (N0 (w64 (n13 + 1))))) (k1 ())
noncomputable def f35_p4 (es7 : List (List PC)) (full8 : Bool) (es9 : List (List PC)) (full10 : Bool) (es11 : List (List PC)) (full12 : Bool) (k0 : Int → Prop) (k1 : Unit → Prop) : Int → Prop := LoopP fun x N => f35_p4b0 es7 full8 es9 full10 es11 full12 x (fun n13 => N n13) k0 k1
noncomputable def f35_p42b0 (es76 : List (List PC)) (full77 : Bool) (es78 : List (List PC)) (full79 : Bool) (es80 : List (List PC)) (full81 : Bool) (i82 : Nat) (n83 : Nat) (n84 : Int) (es85 : List (List PC)) (full86 : Bool) (n87 : Int) (n88 : Int) (es89 : List (List PC)) (N0 : Int → Prop) (k0 : Int → Prop) : Prop := bB (decide (n88 > 0)) ((0 ≤ (w64 (n88 - 1)) ∧ (w64 (n88 - 1)) < ((n83 : Nat) : Int)) ∧ oI .i64 (ext (List.getD es89 (i82 + (Int.toNat (w64 (n88 - 1)))) []) 8 1) fun n90 => (0 ≤ n87 ∧ n87 < ((es85.length : Nat) : Int)) ∧ oI .i64 (ext (List.getD es85 (Int.toNat n87) []) 8 1) fun n91 => bB (decide (n90 > n91)) (N0 (w64 (n88 - 1))) (k0 n88)) (k0 n88)
noncomputable def f35_p42 (es76 : List (List PC)) (full77 : Bool) (es78 : List (List PC)) (full79 : Bool) (es80 : List (List PC)) (full81 : Bool) (i82 : Nat) (n83 : Nat) (n84 : Int) (es85 : List (List PC)) (full86 : Bool) (n87 : Int) (es89 : List (List PC)) (k0 : Int → Prop) : Int → Prop := LoopP fun x N => f35_p42b0 es76 full77 es78 full79 es80 full81 i82 n83 n84 es85 full86 n87 x es89 (fun n88 => N n88) k0
noncomputable def f35_p36b0 (es63 : List (List PC)) (full64 : Bool) (es65 : List (List PC)) (full66 : Bool) (es67 : List (List PC)) (full68 : Bool) (i69 : Nat) (n70 : Nat) (n71 : Int) (es72 : List (List PC)) (full73 : Bool) (n74 : Int) (es75 : List (List PC)) (N0 : Nat → Nat → Int → (List (List PC)) → Prop) (k0 : Nat → Nat → (List (List PC)) → Prop) : Prop := bB (decide (n74 < ((es72.length : Nat) : Int))) (f35_p42 es63 full64 es65 full66 es67 full68 i69 n70 n71 es72 full73 n74 es75 (fun n92 => (0 ≤ (0 : Int) ∧ (0 : Int) ≤ n92 ∧ n92 ≤ ((n70 : Nat) : Int)) ∧ (0 ≤ n74 ∧ n74 < ((es72.length : Nat) : Int)) ∧ cS (ext (List.getD es72 (Int.toNat n74) []) 0 10) fun s94 r93 => cI .i64 r93 fun n96 r95 => cS r95 fun s98 r97 => cI .i64 r97 fun n100 r99 => cI .i64 r99 fun n102 r101 => cI .i64 r101 fun n104 r103 => cI .i64 r103 fun n106 r105 => cI .i64 r105 fun n108 r107 => cI .i64 r107 fun n110 r109 => cB r109 fun b112 r111 => nilC r111 <| (0 ≤ n92 ∧ n92 ≤ ((n70 : Nat) : Int) ∧ ((n70 : Nat) : Int) ≤ ((n70 : Nat) : Int)) ∧ ((0 = 0 ∧ (0 + (List.take ((Int.toNat n92) - 0) (List.drop (i69 + 0) es75)).length) * 96 ≤ 2 ^ 46 ∧ (0 + (List.take ((Int.toNat n92) - 0) (List.drop (i69 + 0) es75)).length) ≤ 2 ^ 46 ∧ (0 + (0 + (List.take ((Int.toNat n92) - 0) (List.drop (i69 + 0) es75)).length)) = (List.drop 0 [] ++ (List.take ((Int.toNat n92) - 0) (List.drop (i69 + 0) es75))).length ∧ ((0 + (List.take ((Int.toNat n92) - 0) (List.drop (i69 + 0) es75)).length) + 1) * 96 ≤ 2 ^ 46 ∧ ((0 + (List.take ((Int.toNat n92) - 0) (List.drop (i69 + 0) es75)).length) + 1) ≤ 2 ^ 46 ∧ (0 + ((0 + (List.take ((Int.toNat n92) - 0) (List.drop (i69 + 0) es75)).length) + 1)) = (List.drop 0 (List.drop 0 [] ++ (List.take ((Int.toNat n92) - 0) (List.drop (i69 + 0) es75))) ++ [[pS s94, pI n96, pS s98, pI n100, pI n102, pI n104, pI n106, pI n108, pI n110, pB b112]]).length ∧ (((0 + (List.take ((Int.toNat n92) - 0) (List.drop (i69 + 0) es75)).length) + 1) + (List.take ((Int.toNat ((n70 : Nat) : Int)) - (Int.toNat n92)) (List.drop (i69 + (Int.toNat n92)) es75)).length) * 96 ≤ 2 ^ 46 ∧ (((0 + (List.take ((Int.toNat n92) - 0) (List.drop (i69 + 0) es75)).length) + 1) + (List.take ((Int.toNat ((n70 : Nat) : Int)) - (Int.toNat n92)) (List.drop (i69 + (Int.toNat n92)) es75)).length) ≤ 2 ^ 46 ∧ N0 0 (((0 + (List.take ((Int.toNat n92) - 0) (List.drop (i69 + 0) es75)).length) + 1) + (List.take ((Int.toNat ((n70 : Nat) : Int)) - (Int.toNat n92)) (List.drop (i69 + (Int.toNat n92)) es75)).length) (w64 (n74 + 1)) (List.drop 0 (List.drop 0 (List.drop 0 [] ++ (List.take ((Int.toNat n92) - 0) (List.drop (i69 + 0) es75))) ++ [[pS s94, pI n96, pS s98, pI n100, pI n102, pI n104, pI n106, pI n108, pI n110, pB b112]]) ++ (List.take ((Int.toNat ((n70 : Nat) : Int)) - (Int.toNat n92)) (List.drop (i69 + (Int.toNat n92)) es75)))) ∧ (0 = 0 ∧ (0 + (List.take ((Int.toNat n92) - 0) (List.drop (i69 + 0) es75)).length) * 96 ≤ 2 ^ 46 ∧ (0 + (List.take ((Int.toNat n92) - 0) (List.drop (i69 + 0) es75)).length) ≤ 2 ^ 46 ∧ (0 + (0 + (List.take ((Int.toNat n92) - 0) (List.drop (i69 + 0) es75)).length)) = (List.drop 0 [] ++ (List.take ((Int.toNat n92) - 0) (List.drop (i69 + 0) es75))).length ∧ ((0 + (List.take ((Int.toNat n92) - 0) (List.drop (i69 + 0) es75)).length) + 1) * 96 ≤ 2 ^ 46 ∧ ((0 + (List.take ((Int.toNat n92) - 0) (List.drop (i69 + 0) es75)).length) + 1) ≤ 2 ^ 46 ∧ (0 + ((0 + (List.take ((Int.toNat n92) - 0) (List.drop (i69 + 0) es75)).length) + 1)) = (List.drop 0 (List.drop 0 [] ++ (List.take ((Int.toNat n92) - 0) (List.drop (i69 + 0) es75))) ++ [[pS s94, pI n96, pS s98, pI n100, pI n102, pI n104, pI n106, pI n108, pI n110, pB b112]]).length ∧ (((0 + (List.take ((Int.toNat n92) - 0) (List.drop (i69 + 0) es75)).length) + 1) + (List.take ((Int.toNat ((n70 : Nat) : Int)) - (Int.toNat n92)) (List.drop (i69 + (Int.toNat n92)) es75)).length) * 96 ≤ 2 ^ 46 ∧ (((0 + (List.take ((Int.toNat n92) - 0) (List.drop (i69 + 0) es75)).length) + 1) + (List.take ((Int.toNat ((n70 : Nat) : Int)) - (Int.toNat n92)) (List.drop (i69 + (Int.toNat n92)) es75)).length) ≤ 2 ^ 46 ∧ N0 0 (((0 + (List.take ((Int.toNat n92) - 0) (List.drop (i69 + 0) es75)).length) + 1) + (List.take ((Int.toNat ((n70 : Nat) : Int)) - (Int.toNat n92)) (List.drop (i69 + (Int.toNat n92)) es75)).length) (w64 (n74 + 1)) (List.drop 0 (List.drop 0 (List.drop 0 [] ++ (List.take ((Int.toNat n92) - 0) (List.drop (i69 + 0) es75))) ++ [[pS s94, pI n96, pS s98, pI n100, pI n102, pI n104, pI n106, pI n108, pI n110, pB b112]]) ++ (List.take ((Int.toNat ((n70 : Nat) : Int)) - (Int.toNat n92)) (List.drop (i69 + (Int.toNat n92)) es75))))) ∧ (0 = 0 ∧ (0 + (List.take ((Int.toNat n92) - 0) (List.drop (i69 + 0) es75)).length) * 96 ≤ 2 ^ 46 ∧ (0 + (List.take ((Int.toNat n92) - 0) (List.drop (i69 + 0) es75)).length) ≤ 2 ^ 46 ∧ (0 + (0 + (List.take ((Int.toNat n92) - 0) (List.drop (i69 + 0) es75)).length)) = (List.drop 0 [] ++ (List.take ((Int.toNat n92) - 0) (List.drop (i69 + 0) es75))).length ∧ ((0 + (List.take ((Int.toNat n92) - 0) (List.drop (i69 + 0) es75)).length) + 1) * 96 ≤ 2 ^ 46 ∧ ((0 + (List.take ((Int.toNat n92) - 0) (List.drop (i69 + 0) es75)).length) + 1) ≤ 2 ^ 46 ∧ (0 + ((0 + (List.take ((Int.toNat n92) - 0) (List.drop (i69 + 0) es75)).length) + 1)) = (List.drop 0 (List.drop 0 [] ++ (List.take ((Int.toNat n92) - 0) (List.drop (i69 + 0) es75))) ++ [[pS s94, pI n96, pS s98, pI n100, pI n102, pI n104, pI n106, pI n108, pI n110, pB b112]]).length ∧ (((0 + (List.take ((Int.toNat n92) - 0) (List.drop (i69 + 0) es75)).length) + 1) + (List.take ((Int.toNat ((n70 : Nat) : Int)) - (Int.toNat n92)) (List.drop (i69 + (Int.toNat n92)) es75)).length) * 96 ≤ 2 ^ 46 ∧ (((0 + (List.take ((Int.toNat n92) - 0) (List.drop (i69 + 0) es75)).length) + 1) + (List.take ((Int.toNat ((n70 : Nat) : Int)) - (Int.toNat n92)) (List.drop (i69 + (Int.toNat n92)) es75)).length) ≤ 2 ^ 46 ∧ N0 0 (((0 + (List.take ((Int.toNat n92) - 0) (List.drop (i69 + 0) es75)).length) + 1) + (List.take ((Int.toNat ((n70 : Nat) : Int)) - (Int.toNat n92)) (List.drop (i69 + (Int.toNat n92)) es75)).length) (w64 (n74 + 1)) (List.drop 0 (List.drop 0 (List.drop 0 [] ++ (List.take ((Int.toNat n92) - 0) (List.drop (i69 + 0) es75))) ++ [[pS s94, pI n96, pS s98, pI n100, pI n102, pI n104, pI n106, pI n108, pI n110, pB b112]]) ++ (List.take ((Int.toNat ((n70 : Nat) : Int)) - (Int.toNat n92)) (List.drop (i69 + (Int.toNat n92)) es75))))) ((n70 : Nat) : Int)) (k0 i69 n70 es75)
noncomputable def f35_p36 (es63 : List (List PC)) (full64 : Bool) (es65 : List (List PC)) (full66 : Bool) (es67 : List (List PC)) (full68 : Bool) (n71 : Int) (es72 : List (List PC)) (full73 : Bool) (k0 : Nat → Nat → (List (List PC)) → Prop) : Nat × Nat × Int × (List (List PC)) → Prop := LoopP fun x N => f35_p36b0 es63 full64 es65 full66 es67 full68 x.1 x.2.1 n71 es72 full73 x.2.2.1 x.2.2.2 (fun i69 n70 n74 es75 => N (i69, n70, n74, es75)) k0
noncomputable def f35_p18b0 (es25 : List (List PC)) (full26 : Bool) (es27 : List (List PC)) (full28 : Bool) (es29 : List (List PC)) (full30 : Bool) (i31 : Nat) (n32 : Nat) (n33 : Int) (es34 : List (List PC)) (N0 : Nat → Nat → Int → (List (List PC)) → Prop) (k0 : Int → Prop) (k1 : Nat → Nat → (List (List PC)) → Prop) : Prop := bB (decide (n33 < ((es29.length : Nat) : Int))) ((0 ≤ n33 ∧ n33 < ((es29.length : Nat) : Int)) ∧ oS (ext (List.getD es29 (Int.toNat n33) []) 1 1) fun s35 => f83 es25 full26 es27 full28 s35 (fun n36 => bB (decide (n36 < 0)) (k0 3) ((0 ≤ n36 ∧ n36 < ((es25.length : Nat) : Int)) ∧ cS (ext (List.getD es25 (Int.toNat n36) []) 0 4) fun s38 r37 => cI .i64 r37 fun n40 r39 => cI .i64 r39 fun n42 r41 => cL 5 r41 fun es44 full45 r43 => nilC r43 <| (0 ≤ n33 ∧ n33 < ((es29.length : Nat) : Int)) ∧ cI .i64 (ext (List.getD es29 (Int.toNat n33) []) 0 7) fun n47 r46 => cS r46 fun s49 r48 => cI .i64 r48 fun n51 r50 => cI .i64 r50 fun n53 r52 => cI .i64 r52 fun n55 r54 => cI .i64 r54 fun n57 r56 => cI .i64 r56 fun n59 r58 => nilC r58 <| f22 s38 n40 n42 es44 full45 n47 s49 n51 n53 n55 n57 n59 (fun es60 full61 n62 => bB (n62 != 0) (k0 n62) (f35_p36 es25 full26 es27 full28 es29 full30 n33 es60 full61 (fun i113 n114 es115 => N0 i113 n114 (w64 (n33 + 1)) es115) (i31, n32, 0, es34)))))) (k1 i31 n32 es34)
noncomputable def f35_p18 (es25 : List (List PC)) (full26 : Bool) (es27 : List (List PC)) (full28 : Bool) (es29 : List (List PC)) (full30 : Bool) (k0 : Int → Prop) (k1 : Nat → Nat → (List (List PC)) → Prop) : Nat × Nat × Int × (List (List PC)) → Prop := LoopP fun x N => f35_p18b0 es25 full26 es27 full28 es29 full30 x.1 x.2.1 x.2.2.1 x.2.2.2 (fun i31 n32 n33 es34 => N (i31, n32, n33, es34)) k0 k1
noncomputable def f35_d (es1 : List (List PC)) (full2 : Bool) (es3 : List (List PC)) (full4 : Bool) (es5 : List (List PC)) (full6 : Bool) (k0 : (List (List PC)) → Bool → Int → Prop) : Prop := f35_p4 es1 full2 es3 full4 es5 full6 (fun n24 => k0 [] true n24) (fun (_ : Unit) => f35_p18 es1 full2 es3 full4 es5 full6 (fun n116 => k0 [] true n116) (fun i117 n118 es119 => k0 (List.take n118 (List.drop i117 es119)) false 0) (0, 0, 0, [])) 0
structure f35 (es1 : List (List PC)) (full2 : Bool) (es3 : List (List PC)) (full4 : Bool) (es5 : List (List PC)) (full6 : Bool) (k0 : (List (List PC)) → Bool → Int → Prop) : Prop where
  run : f35_d es1 full2 es3 full4 es5 full6 k0
noncomputable def f35_p4L : Told := fun s K => match s with
  | ⟨tm, hp⟩ => getS [.v (.one (.sl 4)), .v (.one (.sl 9)), .v (.one (.sl 7)), .skip 5, .v (.one (.int .i64)), .skip 96] [] tm hp fun (xx : ((List (List PC) × Bool) × ((List (List PC) × Bool) × ((List (List PC) × Bool) × (Unit × (Int × (Unit × Unit))))))) (yy : Unit) => f35_p4 xx.1.1 xx.1.2 xx.2.1.1 xx.2.1.2 xx.2.2.1.1 xx.2.2.1.2 (fun n0_0 => K .ret ⟨mkS 105 [(6, .w (.one (.p (.sl 10 [] true)))), (7, I n0_0)], []⟩) (fun (_ : Unit) => K (.exit 0) ⟨mkS 105 [(0, .w (.one (.p (.sl 4 xx.1.1 xx.1.2)))), (1, .w (.one (.p (.sl 9 xx.2.1.1 xx.2.1.2)))), (2, .w (.one (.p (.sl 7 xx.2.2.1.1 xx.2.2.1.2))))], []⟩) xx.2.2.2.2.1
noncomputable def f35_p42L : Told := fun s K => match s with
  | ⟨tm, hp⟩ => getS [.v (.one (.sl 4)), .v (.one (.sl 9)), .v (.one (.sl 7)), .skip 7, .v (.one (.ref 0)), .v (.one (.int .i64)), .skip 1, .v (.one (.sl 10)), .skip 1, .v (.one (.int .i64)), .v (.one (.int .i64)), .skip 88] [.vec 10 true] tm hp fun (xx : ((List (List PC) × Bool) × ((List (List PC) × Bool) × ((List (List PC) × Bool) × (Unit × ((Nat × Nat) × (Int × (Unit × ((List (List PC) × Bool) × (Unit × (Int × (Int × (Unit × Unit))))))))))))) (yy : ((List (List PC)) × Unit)) => f35_p42 xx.1.1 xx.1.2 xx.2.1.1 xx.2.1.2 xx.2.2.1.1 xx.2.2.1.2 xx.2.2.2.2.1.1 xx.2.2.2.2.1.2 xx.2.2.2.2.2.1 xx.2.2.2.2.2.2.2.1.1 xx.2.2.2.2.2.2.2.1.2 xx.2.2.2.2.2.2.2.2.2.1 yy.1 (fun n0_1 => K (.exit 6) ⟨mkS 105 [(0, .w (.one (.p (.sl 4 xx.1.1 xx.1.2)))), (1, .w (.one (.p (.sl 9 xx.2.1.1 xx.2.1.2)))), (2, .w (.one (.p (.sl 7 xx.2.2.1.1 xx.2.2.1.2)))), (10, .w (.one (.ref 0 xx.2.2.2.2.1.1 xx.2.2.2.2.1.2))), (11, I xx.2.2.2.2.2.1), (13, .w (.one (.p (.sl 10 xx.2.2.2.2.2.2.2.1.1 xx.2.2.2.2.2.2.2.1.2)))), (15, I xx.2.2.2.2.2.2.2.2.2.1), (16, I n0_1)], [.vec 10 yy.1 true]⟩) xx.2.2.2.2.2.2.2.2.2.2.1
noncomputable def f35_p36L : Told := fun s K => match s with
  | ⟨tm, hp⟩ => getS [.v (.one (.sl 4)), .v (.one (.sl 9)), .v (.one (.sl 7)), .skip 7, .v (.one (.ref 0)), .v (.one (.int .i64)), .skip 1, .v (.one (.sl 10)), .skip 1, .v (.one (.int .i64)), .skip 89] [.vec 10 true] tm hp fun (xx : ((List (List PC) × Bool) × ((List (List PC) × Bool) × ((List (List PC) × Bool) × (Unit × ((Nat × Nat) × (Int × (Unit × ((List (List PC) × Bool) × (Unit × (Int × (Unit × Unit)))))))))))) (yy : ((List (List PC)) × Unit)) => f35_p36 xx.1.1 xx.1.2 xx.2.1.1 xx.2.1.2 xx.2.2.1.1 xx.2.2.1.2 xx.2.2.2.2.2.1 xx.2.2.2.2.2.2.2.1.1 xx.2.2.2.2.2.2.2.1.2 (fun i0_2 n0_3 es0_4 => K (.exit 4) ⟨mkS 105 [(0, .w (.one (.p (.sl 4 xx.1.1 xx.1.2)))), (1, .w (.one (.p (.sl 9 xx.2.1.1 xx.2.1.2)))), (2, .w (.one (.p (.sl 7 xx.2.2.1.1 xx.2.2.1.2)))), (10, .w (.one (.ref 0 i0_2 n0_3))), (11, I xx.2.2.2.2.2.1)], [.vec 10 es0_4 true]⟩) (xx.2.2.2.2.1.1, xx.2.2.2.2.1.2, xx.2.2.2.2.2.2.2.2.2.1, yy.1)
noncomputable def f35_p18L : Told := fun s K => match s with
  | ⟨tm, hp⟩ => getS [.v (.one (.sl 4)), .v (.one (.sl 9)), .v (.one (.sl 7)), .skip 7, .v (.one (.ref 0)), .v (.one (.int .i64)), .skip 93] [.vec 10 true] tm hp fun (xx : ((List (List PC) × Bool) × ((List (List PC) × Bool) × ((List (List PC) × Bool) × (Unit × ((Nat × Nat) × (Int × (Unit × Unit)))))))) (yy : ((List (List PC)) × Unit)) => f35_p18 xx.1.1 xx.1.2 xx.2.1.1 xx.2.1.2 xx.2.2.1.1 xx.2.2.1.2 (fun n0_5 => K .ret ⟨mkS 105 [(6, .w (.one (.p (.sl 10 [] true)))), (7, I n0_5)], []⟩) (fun i1_6 n1_7 es1_8 => K (.exit 2) ⟨mkS 105 [(10, .w (.one (.ref 0 i1_6 n1_7)))], [.vec 10 es1_8 true]⟩) (xx.2.2.2.2.1.1, xx.2.2.2.2.1.2, xx.2.2.2.2.2.1, yy.1)
noncomputable def f35_tab : List (Nat × Told) := [(4, f35_p4L), (42, f35_p42L), (36, f35_p36L), (18, f35_p18L)]
noncomputable def f35_call : FuncId → List TV → List Entry → (TV → List Entry → Prop) → Prop := addCall 83 f83_G (addCall 22 f22_G (addCall 17 f17_G (noCalls)))
noncomputable def f35_C : Ctx := { ty := tyOf tab, glob := glob, byRef := byRef, keep := fun k i => lookN [] (lookN [] ([(4, [(0, [0, 1, 2, 8]), (2, [6, 7]), (3, [0, 1, 2])]), (42, [(0, [0, 1, 2, 10, 11, 13, 15, 16]), (2, [6, 7]), (5, [10]), (6, [0, 1, 2, 10, 11]), (7, [0, 1, 2, 10, 11]), (8, [0, 1, 2, 10, 11, 13, 15]), (9, [0, 1, 2, 10, 11, 13, 15, 16])]), (36, [(0, [0, 1, 2, 10, 11, 13, 15]), (2, [6, 7]), (5, [10]), (6, [0, 1, 2, 10, 11]), (7, [0, 1, 2, 10, 11])]), (18, [(0, [0, 1, 2, 10, 11]), (2, [6, 7]), (5, [10])])] : List (Nat × List (Nat × List Nat))) k) i, late := lookN [] ([] : List (Nat × List Nat)), nref := lookN [] ([] : List (Nat × List Nat)), nbox := lookN [] ([] : List (Nat × List (Nat × Nat))), take := [], rnil := false, m := 0, fz := true, loops := lookL f35_tab, call := f35_call }
noncomputable def f35_p4_mk (es7 : List (List PC)) (full8 : Bool) (es9 : List (List PC)) (full10 : Bool) (es11 : List (List PC)) (full12 : Bool) (x : Int) : St := ⟨mkS 105 [(0, .w (.one (.p (.sl 4 es7 full8)))), (1, .w (.one (.p (.sl 9 es9 full10)))), (2, .w (.one (.p (.sl 7 es11 full12)))), (8, I x)], []⟩
set_option maxRecDepth 100000 in
theorem f35_p4e0 (es_19 : List (List PC)) (full_20 : Bool) (es_21 : List (List PC)) (full_22 : Bool) (es_23 : List (List PC)) (full_24 : Bool) (n_25 : Int) (N : St → Prop) (K : TExit → St → Prop) : (f35_p4b0 es_19 full_20 es_21 full_22 es_23 full_24 n_25 (fun z6 => N (f35_p4_mk es_19 full_20 es_21 full_22 es_23 full_24 z6)) (fun n0_26 => K .ret ⟨mkS 105 [(6, .w (.one (.p (.sl 10 [] true)))), (7, I n0_26)], []⟩) (fun (_ : Unit) => K (.exit 0) ⟨mkS 105 [(0, .w (.one (.p (.sl 4 es_19 full_20)))), (1, .w (.one (.p (.sl 9 es_21 full_22)))), (2, .w (.one (.p (.sl 7 es_23 full_24))))], []⟩)) = execT f35_C (nthC (bodies (bodyOf Tryd.f35)) 0) (f35_p4_mk es_19 full_20 es_21 full_22 es_23 full_24 n_25) (loopK N (normK f35_C 4) fun e s => K e (normOut f35_C 4 e s)) := by kernel_rfl
noncomputable def f35_p42_mk (es76 : List (List PC)) (full77 : Bool) (es78 : List (List PC)) (full79 : Bool) (es80 : List (List PC)) (full81 : Bool) (i82 : Nat) (n83 : Nat) (n84 : Int) (es85 : List (List PC)) (full86 : Bool) (n87 : Int) (es89 : List (List PC)) (x : Int) : St := ⟨mkS 105 [(0, .w (.one (.p (.sl 4 es76 full77)))), (1, .w (.one (.p (.sl 9 es78 full79)))), (2, .w (.one (.p (.sl 7 es80 full81)))), (10, .w (.one (.ref 0 i82 n83))), (11, I n84), (13, .w (.one (.p (.sl 10 es85 full86)))), (15, I n87), (16, I x)], [.vec 10 es89 true]⟩
set_option maxRecDepth 100000 in
theorem f35_p42e0 (es_41 : List (List PC)) (full_42 : Bool) (es_43 : List (List PC)) (full_44 : Bool) (es_45 : List (List PC)) (full_46 : Bool) (i_47 : Nat) (n_48 : Nat) (n_49 : Int) (es_50 : List (List PC)) (full_51 : Bool) (n_52 : Int) (n_53 : Int) (es_54 : List (List PC)) (N : St → Prop) (K : TExit → St → Prop) : (f35_p42b0 es_41 full_42 es_43 full_44 es_45 full_46 i_47 n_48 n_49 es_50 full_51 n_52 n_53 es_54 (fun z12 => N (f35_p42_mk es_41 full_42 es_43 full_44 es_45 full_46 i_47 n_48 n_49 es_50 full_51 n_52 es_54 z12)) (fun n0_55 => K (.exit 6) ⟨mkS 105 [(0, .w (.one (.p (.sl 4 es_41 full_42)))), (1, .w (.one (.p (.sl 9 es_43 full_44)))), (2, .w (.one (.p (.sl 7 es_45 full_46)))), (10, .w (.one (.ref 0 i_47 n_48))), (11, I n_49), (13, .w (.one (.p (.sl 10 es_50 full_51)))), (15, I n_52), (16, I n0_55)], [.vec 10 es_54 true]⟩)) = execT f35_C (nthC (bodies (bodyOf Tryd.f35)) 3) (f35_p42_mk es_41 full_42 es_43 full_44 es_45 full_46 i_47 n_48 n_49 es_50 full_51 n_52 es_54 n_53) (loopK N (normK f35_C 42) fun e s => K e (normOut f35_C 42 e s)) := by kernel_rfl
noncomputable def f35_p36_mk (es63 : List (List PC)) (full64 : Bool) (es65 : List (List PC)) (full66 : Bool) (es67 : List (List PC)) (full68 : Bool) (n71 : Int) (es72 : List (List PC)) (full73 : Bool) (x : Nat × Nat × Int × (List (List PC))) : St := ⟨mkS 105 [(0, .w (.one (.p (.sl 4 es63 full64)))), (1, .w (.one (.p (.sl 9 es65 full66)))), (2, .w (.one (.p (.sl 7 es67 full68)))), (10, .w (.one (.ref 0 x.1 x.2.1))), (11, I n71), (13, .w (.one (.p (.sl 10 es72 full73)))), (15, I x.2.2.1)], [.vec 10 x.2.2.2 true]⟩
set_option maxRecDepth 100000 in
theorem f35_p36e0 (es_69 : List (List PC)) (full_70 : Bool) (es_71 : List (List PC)) (full_72 : Bool) (es_73 : List (List PC)) (full_74 : Bool) (i_75 : Nat) (n_76 : Nat) (n_77 : Int) (es_78 : List (List PC)) (full_79 : Bool) (n_80 : Int) (es_81 : List (List PC)) (N : St → Prop) (K : TExit → St → Prop) : (f35_p36b0 es_69 full_70 es_71 full_72 es_73 full_74 i_75 n_76 n_77 es_78 full_79 n_80 es_81 (fun z6 z7 z11 z12 => N (f35_p36_mk es_69 full_70 es_71 full_72 es_73 full_74 n_77 es_78 full_79 (z6, z7, z11, z12))) (fun i0_82 n0_83 es0_84 => K (.exit 4) ⟨mkS 105 [(0, .w (.one (.p (.sl 4 es_69 full_70)))), (1, .w (.one (.p (.sl 9 es_71 full_72)))), (2, .w (.one (.p (.sl 7 es_73 full_74)))), (10, .w (.one (.ref 0 i0_82 n0_83))), (11, I n_77)], [.vec 10 es0_84 true]⟩)) = execT f35_C (nthC (bodies (bodyOf Tryd.f35)) 2) (f35_p36_mk es_69 full_70 es_71 full_72 es_73 full_74 n_77 es_78 full_79 (i_75, n_76, n_80, es_81)) (loopK N (normK f35_C 36) fun e s => K e (normOut f35_C 36 e s)) := by kernel_rfl
noncomputable def f35_p18_mk (es25 : List (List PC)) (full26 : Bool) (es27 : List (List PC)) (full28 : Bool) (es29 : List (List PC)) (full30 : Bool) (x : Nat × Nat × Int × (List (List PC))) : St := ⟨mkS 105 [(0, .w (.one (.p (.sl 4 es25 full26)))), (1, .w (.one (.p (.sl 9 es27 full28)))), (2, .w (.one (.p (.sl 7 es29 full30)))), (10, .w (.one (.ref 0 x.1 x.2.1))), (11, I x.2.2.1)], [.vec 10 x.2.2.2 true]⟩
set_option maxRecDepth 100000 in
theorem f35_p18e0 (es_95 : List (List PC)) (full_96 : Bool) (es_97 : List (List PC)) (full_98 : Bool) (es_99 : List (List PC)) (full_100 : Bool) (i_101 : Nat) (n_102 : Nat) (n_103 : Int) (es_104 : List (List PC)) (N : St → Prop) (K : TExit → St → Prop) : (f35_p18b0 es_95 full_96 es_97 full_98 es_99 full_100 i_101 n_102 n_103 es_104 (fun z6 z7 z8 z9 => N (f35_p18_mk es_95 full_96 es_97 full_98 es_99 full_100 (z6, z7, z8, z9))) (fun n0_105 => K .ret ⟨mkS 105 [(6, .w (.one (.p (.sl 10 [] true)))), (7, I n0_105)], []⟩) (fun i1_106 n1_107 es1_108 => K (.exit 2) ⟨mkS 105 [(10, .w (.one (.ref 0 i1_106 n1_107)))], [.vec 10 es1_108 true]⟩)) = execT f35_C (nthC (bodies (bodyOf Tryd.f35)) 1) (f35_p18_mk es_95 full_96 es_97 full_98 es_99 full_100 (i_101, n_102, n_103, es_104)) (loopK N (normK f35_C 18) fun e s => K e (normOut f35_C 18 e s)) := by kernel_rfl
set_option maxHeartbeats 4000000 in
theorem f35_p4_ok : LoopOk f35_C (nthC (bodies (bodyOf Tryd.f35)) 0) := by
  refine LoopOk.of f35_p4L (by kernel_rfl) fun σ K h => ?_
  have hk : loopKey (nthC (bodies (bodyOf Tryd.f35)) 0) = 4 := by kernel_rfl
  rw [hk] at h ⊢
  generalize hs : normK f35_C 4 σ = s at h
  obtain ⟨tm, hp⟩ := s
  unfold f35_p4L at h
  dsimp only at h
  obtain ⟨xx, yy, rfl, rfl, h⟩ := getS_elim h
  refine iter_of (f35_p4_mk xx.1.1 xx.1.2 xx.2.1.1 xx.2.1.2 xx.2.2.1.1 xx.2.2.1.2) (fun x N h => ?_) rounds _ σ (hs.trans (by kernel_rfl)) (LoopP.run h)
  rw [← f35_p4e0 xx.1.1 xx.1.2 xx.2.1.1 xx.2.1.2 xx.2.2.1.1 xx.2.2.1.2 x N K]
  exact h
set_option maxHeartbeats 4000000 in
theorem f35_p42_ok : LoopOk f35_C (nthC (bodies (bodyOf Tryd.f35)) 3) := by
  refine LoopOk.of f35_p42L (by kernel_rfl) fun σ K h => ?_
  have hk : loopKey (nthC (bodies (bodyOf Tryd.f35)) 3) = 42 := by kernel_rfl
  rw [hk] at h ⊢
  generalize hs : normK f35_C 42 σ = s at h
  obtain ⟨tm, hp⟩ := s
  unfold f35_p42L at h
  dsimp only at h
  obtain ⟨xx, yy, rfl, rfl, h⟩ := getS_elim h
  refine iter_of (f35_p42_mk xx.1.1 xx.1.2 xx.2.1.1 xx.2.1.2 xx.2.2.1.1 xx.2.2.1.2 xx.2.2.2.2.1.1 xx.2.2.2.2.1.2 xx.2.2.2.2.2.1 xx.2.2.2.2.2.2.2.1.1 xx.2.2.2.2.2.2.2.1.2 xx.2.2.2.2.2.2.2.2.2.1 yy.1) (fun x N h => ?_) rounds _ σ (hs.trans (by kernel_rfl)) (LoopP.run h)
  rw [← f35_p42e0 xx.1.1 xx.1.2 xx.2.1.1 xx.2.1.2 xx.2.2.1.1 xx.2.2.1.2 xx.2.2.2.2.1.1 xx.2.2.2.2.1.2 xx.2.2.2.2.2.1 xx.2.2.2.2.2.2.2.1.1 xx.2.2.2.2.2.2.2.1.2 xx.2.2.2.2.2.2.2.2.2.1 x yy.1 N K]
  exact h
set_option maxHeartbeats 4000000 in
theorem f35_p36_ok : LoopOk f35_C (nthC (bodies (bodyOf Tryd.f35)) 2) := by
  refine LoopOk.of f35_p36L (by kernel_rfl) fun σ K h => ?_
  have hk : loopKey (nthC (bodies (bodyOf Tryd.f35)) 2) = 36 := by kernel_rfl
  rw [hk] at h ⊢
  generalize hs : normK f35_C 36 σ = s at h
  obtain ⟨tm, hp⟩ := s
  unfold f35_p36L at h
  dsimp only at h
  obtain ⟨xx, yy, rfl, rfl, h⟩ := getS_elim h
  refine iter_of (f35_p36_mk xx.1.1 xx.1.2 xx.2.1.1 xx.2.1.2 xx.2.2.1.1 xx.2.2.1.2 xx.2.2.2.2.2.1 xx.2.2.2.2.2.2.2.1.1 xx.2.2.2.2.2.2.2.1.2) (fun x N h => ?_) rounds _ σ (hs.trans (by kernel_rfl)) (LoopP.run h)
  obtain ⟨y0, y1, y2, y3⟩ := x
  rw [← f35_p36e0 xx.1.1 xx.1.2 xx.2.1.1 xx.2.1.2 xx.2.2.1.1 xx.2.2.1.2 y0 y1 xx.2.2.2.2.2.1 xx.2.2.2.2.2.2.2.1.1 xx.2.2.2.2.2.2.2.1.2 y2 y3 N K]
  exact h
set_option maxHeartbeats 4000000 in
theorem f35_p18_ok : LoopOk f35_C (nthC (bodies (bodyOf Tryd.f35)) 1) := by
  refine LoopOk.of f35_p18L (by kernel_rfl) fun σ K h => ?_
  have hk : loopKey (nthC (bodies (bodyOf Tryd.f35)) 1) = 18 := by kernel_rfl
  rw [hk] at h ⊢
  generalize hs : normK f35_C 18 σ = s at h
  obtain ⟨tm, hp⟩ := s
  unfold f35_p18L at h
  dsimp only at h
  obtain ⟨xx, yy, rfl, rfl, h⟩ := getS_elim h
  refine iter_of (f35_p18_mk xx.1.1 xx.1.2 xx.2.1.1 xx.2.1.2 xx.2.2.1.1 xx.2.2.1.2) (fun x N h => ?_) rounds _ σ (hs.trans (by kernel_rfl)) (LoopP.run h)
  obtain ⟨y0, y1, y2, y3⟩ := x
  rw [← f35_p18e0 xx.1.1 xx.1.2 xx.2.1.1 xx.2.1.2 xx.2.2.1.1 xx.2.2.1.2 y0 y1 y2 y3 N K]
  exact h
noncomputable def f35_G0 : List TV → List Entry → (TV → List Entry → Prop) → Prop := fun tm hp K => getS [.v (.one (.sl 4)), .v (.one (.sl 9)), .v (.one (.sl 7))] [] tm hp fun (xx : ((List (List PC) × Bool) × ((List (List PC) × Bool) × ((List (List PC) × Bool) × Unit)))) (yy : Unit) => f35 xx.1.1 xx.1.2 xx.2.1.1 xx.2.1.2 xx.2.2.1.1 xx.2.2.1.2 (fun es0_9 full0_10 n0_11 => K (.tup [.one (.p (.sl 10 es0_9 full0_10)), .one (.p (pI n0_11))]) [])
set_option maxRecDepth 100000 in
theorem f35_eq (es_109 : List (List PC)) (full_110 : Bool) (es_111 : List (List PC)) (full_112 : Bool) (es_113 : List (List PC)) (full_114 : Bool) (K : TV → List Entry → Prop) : (f35_d es_109 full_110 es_111 full_112 es_113 full_114 (fun es0_9 full0_10 n0_11 => K (.tup [.one (.p (.sl 10 es0_9 full0_10)), .one (.p (pI n0_11))]) [])) = funcT f35_C Tryd.f35 [.w (.one (.p (.sl 4 es_109 full_110))), .w (.one (.p (.sl 9 es_111 full_112))), .w (.one (.p (.sl 7 es_113 full_114)))] [] K := by kernel_rfl
set_option maxHeartbeats 4000000 in
theorem f35_ok0 : FnOk Tryd.prog glob 35 f35_G0 := by
  refine FnOk.of_text (C := f35_C) tab_ok.ok (Known.add f83_G_ok (Known.add f22_G_ok (Known.add f17_G_ok (Known.none)))) follows_ok (fn := Tryd.f35) (by kernel_rfl) (by kernel_rfl) (by kernel_rfl) (fun c hc => ?_) fun tm hp K h => ?_
  · have e : c = bodyOf Tryd.f35 := Option.some.inj (hc.symm.trans (by kernel_rfl))
    subst e
    exact ⟨LoopsOk.of [nthC (bodies (bodyOf Tryd.f35)) 0, nthC (bodies (bodyOf Tryd.f35)) 1, nthC (bodies (bodyOf Tryd.f35)) 2, nthC (bodies (bodyOf Tryd.f35)) 3] (by kernel_rfl) ⟨f35_p4_ok, f35_p18_ok, f35_p36_ok, f35_p42_ok, trivial⟩, TailsOk.of (tab := f35_tab) rfl [] (by kernel_rfl) trivial⟩
  · unfold f35_G0 at h
    obtain ⟨xx, yy, rfl, rfl, h⟩ := getS_elim h
    have e := (f35_eq xx.1.1 xx.1.2 xx.2.1.1 xx.2.1.2 xx.2.2.1.1 xx.2.2.1.2 K).trans (show _ = funcT f35_C Tryd.f35 (mkR _ xx) (mkE _ yy) K by kernel_rfl)
    rw [← e]
    exact h.run
noncomputable abbrev f35_G := f35_G0
theorem f35_G_ok : FnOk Tryd.prog glob 35 f35_G := f35_ok0
end Go.Eng.N
set_option linter.unusedVariables false
set_option maxRecDepth 100000
open Go Go.Eng Go.Proofs
namespace Go.Eng.N
/-! ### f11: plenum/plenumlaw39.NotifyRoutes -/
noncomputable def f11_d (es1 : List (List PC)) (full2 : Bool) (es3 : List (List PC)) (full4 : Bool) (es5 : List (List PC)) (full6 : Bool) (k0 : Bool → Prop) : Prop := f12 (fun b7 => bB (!b7) (k0 false) (f33 es1 full2 es3 full4 es5 full6 (fun b8 => bB (!b8) (k0 true) (f34 es1 full2 es3 full4 es5 full6 (fun es9 full10 n11 => f35 es1 full2 es3 full4 es5 full6 (fun es12 full13 n14 => bB (n11 == n14) (f24 es9 full10 es12 full13 (fun b15 => k0 b15)) (k0 false)))))))
structure f11 (es1 : List (List PC)) (full2 : Bool) (es3 : List (List PC)) (full4 : Bool) (es5 : List (List PC)) (full6 : Bool) (k0 : Bool → Prop) : Prop where
  run : f11_d es1 full2 es3 full4 es5 full6 k0
noncomputable def f11_tab : List (Nat × Told) := []
noncomputable def f11_call : FuncId → List TV → List Entry → (TV → List Entry → Prop) → Prop := addCall 35 f35_G (addCall 34 f34_G (addCall 33 f33_G (addCall 24 f24_G (addCall 12 f12_G (noCalls)))))
noncomputable def f11_C : Ctx := { ty := tyOf tab, glob := glob, byRef := byRef, keep := fun k i => lookN [] (lookN [] ([] : List (Nat × List (Nat × List Nat))) k) i, late := lookN [] ([] : List (Nat × List Nat)), nref := lookN [] ([] : List (Nat × List Nat)), nbox := lookN [] ([] : List (Nat × List (Nat × Nat))), take := [], rnil := false, m := 0, fz := true, loops := lookL f11_tab, call := f11_call }
noncomputable def f11_G0 : List TV → List Entry → (TV → List Entry → Prop) → Prop := fun tm hp K => getS [.v (.one (.sl 4)), .v (.one (.sl 9)), .v (.one (.sl 7))] [] tm hp fun (xx : ((List (List PC) × Bool) × ((List (List PC) × Bool) × ((List (List PC) × Bool) × Unit)))) (yy : Unit) => f11 xx.1.1 xx.1.2 xx.2.1.1 xx.2.1.2 xx.2.2.1.1 xx.2.2.1.2 (fun b0_0 => K (B b0_0) [])
set_option maxRecDepth 100000 in
theorem f11_eq (es_1 : List (List PC)) (full_2 : Bool) (es_3 : List (List PC)) (full_4 : Bool) (es_5 : List (List PC)) (full_6 : Bool) (K : TV → List Entry → Prop) : (f11_d es_1 full_2 es_3 full_4 es_5 full_6 (fun b0_0 => K (B b0_0) [])) = funcT f11_C Tryd.f11 [.w (.one (.p (.sl 4 es_1 full_2))), .w (.one (.p (.sl 9 es_3 full_4))), .w (.one (.p (.sl 7 es_5 full_6)))] [] K := by kernel_rfl
set_option maxHeartbeats 4000000 in
theorem f11_ok0 : FnOk Tryd.prog glob 11 f11_G0 := by
  refine FnOk.of_text (C := f11_C) tab_ok.ok (Known.add f35_G_ok (Known.add f34_G_ok (Known.add f33_G_ok (Known.add f24_G_ok (Known.add f12_G_ok (Known.none)))))) follows_ok (fn := Tryd.f11) (by kernel_rfl) (by kernel_rfl) (by kernel_rfl) (fun c hc => ?_) fun tm hp K h => ?_
  · have e : c = bodyOf Tryd.f11 := Option.some.inj (hc.symm.trans (by kernel_rfl))
    subst e
    exact ⟨LoopsOk.of [] (by kernel_rfl) trivial, TailsOk.of (tab := f11_tab) rfl [] (by kernel_rfl) trivial⟩
  · unfold f11_G0 at h
    obtain ⟨xx, yy, rfl, rfl, h⟩ := getS_elim h
    have e := (f11_eq xx.1.1 xx.1.2 xx.2.1.1 xx.2.1.2 xx.2.2.1.1 xx.2.2.1.2 K).trans (show _ = funcT f11_C Tryd.f11 (mkR _ xx) (mkE _ yy) K by kernel_rfl)
    rw [← e]
    exact h.run
noncomputable abbrev f11_G := f11_G0
theorem f11_G_ok : FnOk Tryd.prog glob 11 f11_G := f11_ok0
end Go.Eng.N
