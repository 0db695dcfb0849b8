/- What the functions that the law reaches compute, by the engine; written by program. -/
import Derived.Test.YtbidkfbcmhioiaaDoorFn1
set_option linter.unusedVariables false
set_option maxRecDepth 100000
open Go Go.Eng Go.Proofs
namespace Go.Eng.N
/-! ### f28: plenum/plenumref39.Without -/
noncomputable def f28_p12b0 (s8 : ByteArray) (n9 : Int) (s10 : ByteArray) (n11 : Int) (n12 : Int) (es13 : List (List PC)) (full14 : Bool) (s15 : ByteArray) (n16 : Int) (n17 : Int) (s18 : ByteArray) (n19 : Int) (n20 : Int) (i21 : Nat) (n22 : Nat) (es23 : List (List PC)) (N0 : Int → Nat → Nat → (List (List PC)) → Prop) (k0 : Nat → Nat → (List (List PC)) → Prop) : Prop := bB (decide (n9 < ((es13.length : Nat) : Int))) ((0 ≤ n9 ∧ n9 < ((es13.length : Nat) : Int)) ∧ oS (ext (List.getD es13 (Int.toNat n9) []) 0 1) fun s24 => bB (!(s24.toList == s8.toList)) ((0 ≤ n9 ∧ n9 < ((es13.length : Nat) : Int)) ∧ cS (ext (List.getD es13 (Int.toNat n9) []) 0 5) fun s26 r25 => cI .i64 r25 fun n28 r27 => cI .i64 r27 fun n30 r29 => cI .i64 r29 fun n32 r31 => cI .i64 r31 fun n34 r33 => nilC r33 <| (i21 + n22) = es23.length ∧ (n22 + 1) * 48 ≤ 2 ^ 46 ∧ (n22 + 1) ≤ 2 ^ 46 ∧ N0 (w64 (n9 + 1)) 0 (n22 + 1) (List.drop i21 es23 ++ [[pS s26, pI n28, pI n30, pI n32, pI n34]])) (N0 (w64 (n9 + 1)) i21 n22 es23)) (k0 i21 n22 es23)
noncomputable def f28_p12 (s8 : ByteArray) (s10 : ByteArray) (n11 : Int) (n12 : Int) (es13 : List (List PC)) (full14 : Bool) (s15 : ByteArray) (n16 : Int) (n17 : Int) (s18 : ByteArray) (n19 : Int) (n20 : Int) (k0 : Nat → Nat → (List (List PC)) → Prop) : Int × Nat × Nat × (List (List PC)) → Prop := LoopP fun x N => f28_p12b0 s8 x.1 s10 n11 n12 es13 full14 s15 n16 n17 s18 n19 n20 x.2.1 x.2.2.1 x.2.2.2 (fun n9 i21 n22 es23 => N (n9, i21, n22, es23)) k0
noncomputable def f28_p38b0 (n69 : Int) (n70 : Int) (n71 : Int) (s72 : ByteArray) (n73 : Int) (n74 : Int) (es75 : List (List PC)) (full76 : Bool) (s77 : ByteArray) (n78 : Int) (n79 : Int) (s80 : ByteArray) (n81 : Int) (n82 : Int) (i83 : Nat) (n84 : Nat) (es85 : List (List PC)) (N0 : Int → Prop) (k0 : Int → ByteArray → Int → Int → Prop) (k1 : Unit → Prop) : Prop := bB (decide (n71 ≤ 4)) (f60 s72 n73 n74 es75 full76 n69 n70 n71 (fun b86 => bB b86 (f60 s80 n81 n82 (List.take n84 (List.drop i83 es85)) false n69 n70 n71 (fun b87 => bB (!b87) (k0 10 (⟨#[]⟩ : ByteArray) 0 0) (N0 (w64 (2 * n71))))) (N0 (w64 (2 * n71))))) (k1 ())
noncomputable def f28_p38 (n69 : Int) (n70 : Int) (s72 : ByteArray) (n73 : Int) (n74 : Int) (es75 : List (List PC)) (full76 : Bool) (s77 : ByteArray) (n78 : Int) (n79 : Int) (s80 : ByteArray) (n81 : Int) (n82 : Int) (i83 : Nat) (n84 : Nat) (es85 : List (List PC)) (k0 : Int → ByteArray → Int → Int → Prop) (k1 : Unit → Prop) : Int → Prop := LoopP fun x N => f28_p38b0 n69 n70 x s72 n73 n74 es75 full76 s77 n78 n79 s80 n81 n82 i83 n84 es85 (fun n71 => N n71) k0 k1
noncomputable def f28_p32b0 (n53 : Int) (n54 : Int) (s55 : ByteArray) (n56 : Int) (n57 : Int) (es58 : List (List PC)) (full59 : Bool) (s60 : ByteArray) (n61 : Int) (n62 : Int) (s63 : ByteArray) (n64 : Int) (n65 : Int) (i66 : Nat) (n67 : Nat) (es68 : List (List PC)) (N0 : Int → Prop) (k0 : Int → ByteArray → Int → Int → Prop) (k1 : Unit → Prop) : Prop := bB (decide (n54 < 1440)) (f28_p38 n53 n54 s55 n56 n57 es58 full59 s60 n61 n62 s63 n64 n65 i66 n67 es68 (fun n88 s89 n90 n91 => k0 n88 s89 n90 n91) (fun (_ : Unit) => N0 (w64 (n54 + 1))) 1) (k1 ())
noncomputable def f28_p32 (n53 : Int) (s55 : ByteArray) (n56 : Int) (n57 : Int) (es58 : List (List PC)) (full59 : Bool) (s60 : ByteArray) (n61 : Int) (n62 : Int) (s63 : ByteArray) (n64 : Int) (n65 : Int) (i66 : Nat) (n67 : Nat) (es68 : List (List PC)) (k0 : Int → ByteArray → Int → Int → Prop) (k1 : Unit → Prop) : Int → Prop := LoopP fun x N => f28_p32b0 n53 x s55 n56 n57 es58 full59 s60 n61 n62 s63 n64 n65 i66 n67 es68 (fun n54 => N n54) k0 k1
noncomputable def f28_p26b0 (n38 : Int) (s39 : ByteArray) (n40 : Int) (n41 : Int) (es42 : List (List PC)) (full43 : Bool) (s44 : ByteArray) (n45 : Int) (n46 : Int) (s47 : ByteArray) (n48 : Int) (n49 : Int) (i50 : Nat) (n51 : Nat) (es52 : List (List PC)) (N0 : Int → Prop) (k0 : Int → ByteArray → Int → Int → Prop) (k1 : Unit → Prop) : Prop := bB (decide (n38 < 7)) (f28_p32 n38 s39 n40 n41 es42 full43 s44 n45 n46 s47 n48 n49 i50 n51 es52 (fun n92 s93 n94 n95 => k0 n92 s93 n94 n95) (fun (_ : Unit) => N0 (w64 (n38 + 1))) 0) (k1 ())
noncomputable def f28_p26 (s39 : ByteArray) (n40 : Int) (n41 : Int) (es42 : List (List PC)) (full43 : Bool) (s44 : ByteArray) (n45 : Int) (n46 : Int) (s47 : ByteArray) (n48 : Int) (n49 : Int) (i50 : Nat) (n51 : Nat) (es52 : List (List PC)) (k0 : Int → ByteArray → Int → Int → Prop) (k1 : Unit → Prop) : Int → Prop := LoopP fun x N => f28_p26b0 x s39 n40 n41 es42 full43 s44 n45 n46 s47 n48 n49 i50 n51 es52 (fun n38 => N n38) k0 k1
noncomputable def f28_d (s1 : ByteArray) (n2 : Int) (n3 : Int) (es4 : List (List PC)) (full5 : Bool) (s6 : ByteArray) (k0 : ByteArray → Int → Int → (List (List PC)) → Bool → Int → Prop) : Prop := f17 s1 n2 n3 es4 full5 (fun n7 => bB (n7 != 0) (k0 (⟨#[]⟩ : ByteArray) 0 0 [] true n7) (f28_p12 s6 s1 n2 n3 es4 full5 (⟨#[]⟩ : ByteArray) 0 0 s1 n2 n3 (fun i35 n36 es37 => bB (((n36 : Nat) : Int) == ((es4.length : Nat) : Int)) (k0 (⟨#[]⟩ : ByteArray) 0 0 [] true 3) (f28_p26 s1 n2 n3 es4 full5 (⟨#[]⟩ : ByteArray) 0 0 s1 n2 n3 i35 n36 es37 (fun n96 s97 n98 n99 => k0 s97 n98 n99 [] true n96) (fun (_ : Unit) => k0 s1 n2 n3 (List.take n36 (List.drop i35 es37)) false 0) 0)) (0, 0, 0, [])))
structure f28 (s1 : ByteArray) (n2 : Int) (n3 : Int) (es4 : List (List PC)) (full5 : Bool) (s6 : ByteArray) (k0 : ByteArray → Int → Int → (List (List PC)) → Bool → Int → Prop) : Prop where
  run : f28_d s1 n2 n3 es4 full5 s6 k0
noncomputable def f28_p12L : Told := fun s K => match s with
  | ⟨tm, hp⟩ => getS [.skip 1, .v (.one (.str)), .v (.one (.ptr 0 0 0)), .skip 1, .v (.one (.ptr 1 0 0)), .skip 2, .v (.one (.ptr 2 0 0)), .v (.one (.int .i64)), .skip 76] [.box [.str, .int .i64, .int .i64, .sl 5], .box [.str, .int .i64, .int .i64, .nil 5], .box [.str, .int .i64, .int .i64, .ref 3], .vec 5 true] tm hp fun (xx : (Unit × (ByteArray × (Unit × (Unit × (Unit × (Unit × (Unit × (Int × (Unit × Unit)))))))))) (yy : ((ByteArray × (Int × (Int × ((List (List PC) × Bool) × Unit)))) × ((ByteArray × (Int × (Int × (Unit × Unit)))) × ((ByteArray × (Int × (Int × ((Nat × Nat) × Unit)))) × ((List (List PC)) × Unit))))) => f28_p12 xx.2.1 yy.1.1 yy.1.2.1 yy.1.2.2.1 yy.1.2.2.2.1.1 yy.1.2.2.2.1.2 yy.2.1.1 yy.2.1.2.1 yy.2.1.2.2.1 yy.2.2.1.1 yy.2.2.1.2.1 yy.2.2.1.2.2.1 (fun i0_0 n0_1 es0_2 => K (.exit 0) ⟨mkS 85 [(2, .w (.one (.ptr 0 0 0))), (4, .w (.one (.ptr 1 0 0))), (7, .w (.one (.ptr 2 0 0)))], [.box [.p (pS yy.1.1), .p (pI yy.1.2.1), .p (pI yy.1.2.2.1), .p (.sl 5 yy.1.2.2.2.1.1 yy.1.2.2.2.1.2)], .box [.p (pS yy.2.1.1), .p (pI yy.2.1.2.1), .p (pI yy.2.1.2.2.1), .p (.sl 5 [] true)], .box [.p (pS yy.2.2.1.1), .p (pI yy.2.2.1.2.1), .p (pI yy.2.2.1.2.2.1), .ref 3 i0_0 n0_1], .vec 5 es0_2 true]⟩) (xx.2.2.2.2.2.2.2.1, yy.2.2.1.2.2.2.1.1, yy.2.2.1.2.2.2.1.2, yy.2.2.2.1)
noncomputable def f28_p38L : Told := fun s K => match s with
  | ⟨tm, hp⟩ => getS [.skip 2, .v (.one (.ptr 0 0 0)), .skip 1, .v (.one (.ptr 1 0 0)), .skip 2, .v (.one (.ptr 2 0 0)), .skip 1, .v (.one (.int .i64)), .v (.one (.int .i64)), .v (.one (.int .i64)), .skip 73] [.box [.str, .int .i64, .int .i64, .sl 5], .box [.str, .int .i64, .int .i64, .nil 5], .box [.str, .int .i64, .int .i64, .ref 3], .vec 5 true] tm hp fun (xx : (Unit × (Unit × (Unit × (Unit × (Unit × (Unit × (Unit × (Int × (Int × (Int × (Unit × Unit)))))))))))) (yy : ((ByteArray × (Int × (Int × ((List (List PC) × Bool) × Unit)))) × ((ByteArray × (Int × (Int × (Unit × Unit)))) × ((ByteArray × (Int × (Int × ((Nat × Nat) × Unit)))) × ((List (List PC)) × Unit))))) => f28_p38 xx.2.2.2.2.2.2.2.1 xx.2.2.2.2.2.2.2.2.1 yy.1.1 yy.1.2.1 yy.1.2.2.1 yy.1.2.2.2.1.1 yy.1.2.2.2.1.2 yy.2.1.1 yy.2.1.2.1 yy.2.1.2.2.1 yy.2.2.1.1 yy.2.2.1.2.1 yy.2.2.1.2.2.1 yy.2.2.1.2.2.2.1.1 yy.2.2.1.2.2.2.1.2 yy.2.2.2.1 (fun n0_3 s0_4 n0_5 n0_6 => K .ret ⟨mkS 85 [(4, .w (.one (.ptr 0 0 0))), (5, I n0_3)], [.box [.p (pS s0_4), .p (pI n0_5), .p (pI n0_6), .p (.sl 5 [] true)]]⟩) (fun (_ : Unit) => K (.exit 6) ⟨mkS 85 [(2, .w (.one (.ptr 0 0 0))), (4, .w (.one (.ptr 1 0 0))), (7, .w (.one (.ptr 2 0 0))), (9, I xx.2.2.2.2.2.2.2.1), (10, I xx.2.2.2.2.2.2.2.2.1)], [.box [.p (pS yy.1.1), .p (pI yy.1.2.1), .p (pI yy.1.2.2.1), .p (.sl 5 yy.1.2.2.2.1.1 yy.1.2.2.2.1.2)], .box [.p (pS yy.2.1.1), .p (pI yy.2.1.2.1), .p (pI yy.2.1.2.2.1), .p (.sl 5 [] true)], .box [.p (pS yy.2.2.1.1), .p (pI yy.2.2.1.2.1), .p (pI yy.2.2.1.2.2.1), .ref 3 yy.2.2.1.2.2.2.1.1 yy.2.2.1.2.2.2.1.2], .vec 5 yy.2.2.2.1 true]⟩) xx.2.2.2.2.2.2.2.2.2.1
noncomputable def f28_p32L : Told := fun s K => match s with
  | ⟨tm, hp⟩ => getS [.skip 2, .v (.one (.ptr 0 0 0)), .skip 1, .v (.one (.ptr 1 0 0)), .skip 2, .v (.one (.ptr 2 0 0)), .skip 1, .v (.one (.int .i64)), .v (.one (.int .i64)), .skip 74] [.box [.str, .int .i64, .int .i64, .sl 5], .box [.str, .int .i64, .int .i64, .nil 5], .box [.str, .int .i64, .int .i64, .ref 3], .vec 5 true] tm hp fun (xx : (Unit × (Unit × (Unit × (Unit × (Unit × (Unit × (Unit × (Int × (Int × (Unit × Unit))))))))))) (yy : ((ByteArray × (Int × (Int × ((List (List PC) × Bool) × Unit)))) × ((ByteArray × (Int × (Int × (Unit × Unit)))) × ((ByteArray × (Int × (Int × ((Nat × Nat) × Unit)))) × ((List (List PC)) × Unit))))) => f28_p32 xx.2.2.2.2.2.2.2.1 yy.1.1 yy.1.2.1 yy.1.2.2.1 yy.1.2.2.2.1.1 yy.1.2.2.2.1.2 yy.2.1.1 yy.2.1.2.1 yy.2.1.2.2.1 yy.2.2.1.1 yy.2.2.1.2.1 yy.2.2.1.2.2.1 yy.2.2.1.2.2.2.1.1 yy.2.2.1.2.2.2.1.2 yy.2.2.2.1 (fun n0_7 s0_8 n0_9 n0_10 => K .ret ⟨mkS 85 [(4, .w (.one (.ptr 0 0 0))), (5, I n0_7)], [.box [.p (pS s0_8), .p (pI n0_9), .p (pI n0_10), .p (.sl 5 [] true)]]⟩) (fun (_ : Unit) => K (.exit 4) ⟨mkS 85 [(2, .w (.one (.ptr 0 0 0))), (4, .w (.one (.ptr 1 0 0))), (7, .w (.one (.ptr 2 0 0))), (9, I xx.2.2.2.2.2.2.2.1)], [.box [.p (pS yy.1.1), .p (pI yy.1.2.1), .p (pI yy.1.2.2.1), .p (.sl 5 yy.1.2.2.2.1.1 yy.1.2.2.2.1.2)], .box [.p (pS yy.2.1.1), .p (pI yy.2.1.2.1), .p (pI yy.2.1.2.2.1), .p (.sl 5 [] true)], .box [.p (pS yy.2.2.1.1), .p (pI yy.2.2.1.2.1), .p (pI yy.2.2.1.2.2.1), .ref 3 yy.2.2.1.2.2.2.1.1 yy.2.2.1.2.2.2.1.2], .vec 5 yy.2.2.2.1 true]⟩) xx.2.2.2.2.2.2.2.2.1
noncomputable def f28_p26L : Told := fun s K => match s with
  | ⟨tm, hp⟩ => getS [.skip 2, .v (.one (.ptr 0 0 0)), .skip 1, .v (.one (.ptr 1 0 0)), .skip 2, .v (.one (.ptr 2 0 0)), .skip 1, .v (.one (.int .i64)), .skip 75] [.box [.str, .int .i64, .int .i64, .sl 5], .box [.str, .int .i64, .int .i64, .nil 5], .box [.str, .int .i64, .int .i64, .ref 3], .vec 5 true] tm hp fun (xx : (Unit × (Unit × (Unit × (Unit × (Unit × (Unit × (Unit × (Int × (Unit × Unit)))))))))) (yy : ((ByteArray × (Int × (Int × ((List (List PC) × Bool) × Unit)))) × ((ByteArray × (Int × (Int × (Unit × Unit)))) × ((ByteArray × (Int × (Int × ((Nat × Nat) × Unit)))) × ((List (List PC)) × Unit))))) => f28_p26 yy.1.1 yy.1.2.1 yy.1.2.2.1 yy.1.2.2.2.1.1 yy.1.2.2.2.1.2 yy.2.1.1 yy.2.1.2.1 yy.2.1.2.2.1 yy.2.2.1.1 yy.2.2.1.2.1 yy.2.2.1.2.2.1 yy.2.2.1.2.2.2.1.1 yy.2.2.1.2.2.2.1.2 yy.2.2.2.1 (fun n0_11 s0_12 n0_13 n0_14 => K .ret ⟨mkS 85 [(4, .w (.one (.ptr 0 0 0))), (5, I n0_11)], [.box [.p (pS s0_12), .p (pI n0_13), .p (pI n0_14), .p (.sl 5 [] true)]]⟩) (fun (_ : Unit) => K (.exit 2) ⟨mkS 85 [(4, .w (.one (.ptr 0 0 0))), (7, .w (.one (.ptr 1 0 0)))], [.box [.p (pS yy.2.1.1), .p (pI yy.2.1.2.1), .p (pI yy.2.1.2.2.1), .p (.sl 5 [] true)], .box [.p (pS yy.2.2.1.1), .p (pI yy.2.2.1.2.1), .p (pI yy.2.2.1.2.2.1), .ref 2 yy.2.2.1.2.2.2.1.1 yy.2.2.1.2.2.2.1.2], .vec 5 yy.2.2.2.1 true]⟩) xx.2.2.2.2.2.2.2.1
noncomputable def f28_tab : List (Nat × Told) := [(12, f28_p12L), (38, f28_p38L), (32, f28_p32L), (26, f28_p26L)]
noncomputable def f28_call : FuncId → List TV → List Entry → (TV → List Entry → Prop) → Prop := addCall 60 f60_G (addCall 17 f17_G (noCalls))
noncomputable def f28_C : Ctx := { ty := tyOf tab, glob := glob, byRef := byRef, keep := fun k i => lookN [] (lookN [] ([(12, [(0, [1, 2, 4, 7, 8]), (2, [4, 5]), (3, [2, 4, 7])]), (38, [(0, [2, 4, 7, 9, 10, 11]), (2, [4, 5]), (5, [4, 7]), (6, [2, 4, 7, 9]), (7, [2, 4, 7, 9]), (8, [2, 4, 7, 9, 10]), (9, [2, 4, 7, 9, 10])]), (32, [(0, [2, 4, 7, 9, 10]), (2, [4, 5]), (5, [4, 7]), (6, [2, 4, 7, 9]), (7, [2, 4, 7, 9])]), (26, [(0, [2, 4, 7, 9]), (2, [4, 5]), (5, [4, 7])])] : List (Nat × List (Nat × List Nat))) k) i, late := lookN [] ([] : List (Nat × List Nat)), nref := lookN [] ([] : List (Nat × List Nat)), nbox := lookN [] ([(12, [(2, 3)])] : List (Nat × List (Nat × Nat))), take := [], rnil := false, m := 0, fz := true, loops := lookL f28_tab, call := f28_call }
noncomputable def f28_p12_mk (s8 : ByteArray) (s10 : ByteArray) (n11 : Int) (n12 : Int) (es13 : List (List PC)) (full14 : Bool) (s15 : ByteArray) (n16 : Int) (n17 : Int) (s18 : ByteArray) (n19 : Int) (n20 : Int) (x : Int × Nat × Nat × (List (List PC))) : St := ⟨mkS 85 [(1, S s8), (2, .w (.one (.ptr 0 0 0))), (4, .w (.one (.ptr 1 0 0))), (7, .w (.one (.ptr 2 0 0))), (8, I x.1)], [.box [.p (pS s10), .p (pI n11), .p (pI n12), .p (.sl 5 es13 full14)], .box [.p (pS s15), .p (pI n16), .p (pI n17), .p (.sl 5 [] true)], .box [.p (pS s18), .p (pI n19), .p (pI n20), .ref 3 x.2.1 x.2.2.1], .vec 5 x.2.2.2 true]⟩
set_option maxRecDepth 100000 in
theorem f28_p12e0 (s_31 : ByteArray) (n_32 : Int) (s_33 : ByteArray) (n_34 : Int) (n_35 : Int) (es_36 : List (List PC)) (full_37 : Bool) (s_38 : ByteArray) (n_39 : Int) (n_40 : Int) (s_41 : ByteArray) (n_42 : Int) (n_43 : Int) (i_44 : Nat) (n_45 : Nat) (es_46 : List (List PC)) (N : St → Prop) (K : TExit → St → Prop) : (f28_p12b0 s_31 n_32 s_33 n_34 n_35 es_36 full_37 s_38 n_39 n_40 s_41 n_42 n_43 i_44 n_45 es_46 (fun z1 z13 z14 z15 => N (f28_p12_mk s_31 s_33 n_34 n_35 es_36 full_37 s_38 n_39 n_40 s_41 n_42 n_43 (z1, z13, z14, z15))) (fun i0_47 n0_48 es0_49 => K (.exit 0) ⟨mkS 85 [(2, .w (.one (.ptr 0 0 0))), (4, .w (.one (.ptr 1 0 0))), (7, .w (.one (.ptr 2 0 0)))], [.box [.p (pS s_33), .p (pI n_34), .p (pI n_35), .p (.sl 5 es_36 full_37)], .box [.p (pS s_38), .p (pI n_39), .p (pI n_40), .p (.sl 5 [] true)], .box [.p (pS s_41), .p (pI n_42), .p (pI n_43), .ref 3 i0_47 n0_48], .vec 5 es0_49 true]⟩)) = execT f28_C (nthC (bodies (bodyOf Tryd.f28)) 0) (f28_p12_mk s_31 s_33 n_34 n_35 es_36 full_37 s_38 n_39 n_40 s_41 n_42 n_43 (n_32, i_44, n_45, es_46)) (loopK N (normK f28_C 12) fun e s => K e (normOut f28_C 12 e s)) := by kernel_rfl
noncomputable def f28_p38_mk (n69 : Int) (n70 : Int) (s72 : ByteArray) (n73 : Int) (n74 : Int) (es75 : List (List PC)) (full76 : Bool) (s77 : ByteArray) (n78 : Int) (n79 : Int) (s80 : ByteArray) (n81 : Int) (n82 : Int) (i83 : Nat) (n84 : Nat) (es85 : List (List PC)) (x : Int) : St := ⟨mkS 85 [(2, .w (.one (.ptr 0 0 0))), (4, .w (.one (.ptr 1 0 0))), (7, .w (.one (.ptr 2 0 0))), (9, I n69), (10, I n70), (11, I x)], [.box [.p (pS s72), .p (pI n73), .p (pI n74), .p (.sl 5 es75 full76)], .box [.p (pS s77), .p (pI n78), .p (pI n79), .p (.sl 5 [] true)], .box [.p (pS s80), .p (pI n81), .p (pI n82), .ref 3 i83 n84], .vec 5 es85 true]⟩
set_option maxRecDepth 100000 in
theorem f28_p38e0 (n_67 : Int) (n_68 : Int) (n_69 : Int) (s_70 : ByteArray) (n_71 : Int) (n_72 : Int) (es_73 : List (List PC)) (full_74 : Bool) (s_75 : ByteArray) (n_76 : Int) (n_77 : Int) (s_78 : ByteArray) (n_79 : Int) (n_80 : Int) (i_81 : Nat) (n_82 : Nat) (es_83 : List (List PC)) (N : St → Prop) (K : TExit → St → Prop) : (f28_p38b0 n_67 n_68 n_69 s_70 n_71 n_72 es_73 full_74 s_75 n_76 n_77 s_78 n_79 n_80 i_81 n_82 es_83 (fun z2 => N (f28_p38_mk n_67 n_68 s_70 n_71 n_72 es_73 full_74 s_75 n_76 n_77 s_78 n_79 n_80 i_81 n_82 es_83 z2)) (fun n0_84 s0_85 n0_86 n0_87 => K .ret ⟨mkS 85 [(4, .w (.one (.ptr 0 0 0))), (5, I n0_84)], [.box [.p (pS s0_85), .p (pI n0_86), .p (pI n0_87), .p (.sl 5 [] true)]]⟩) (fun (_ : Unit) => K (.exit 6) ⟨mkS 85 [(2, .w (.one (.ptr 0 0 0))), (4, .w (.one (.ptr 1 0 0))), (7, .w (.one (.ptr 2 0 0))), (9, I n_67), (10, I n_68)], [.box [.p (pS s_70), .p (pI n_71), .p (pI n_72), .p (.sl 5 es_73 full_74)], .box [.p (pS s_75), .p (pI n_76), .p (pI n_77), .p (.sl 5 [] true)], .box [.p (pS s_78), .p (pI n_79), .p (pI n_80), .ref 3 i_81 n_82], .vec 5 es_83 true]⟩)) = execT f28_C (nthC (bodies (bodyOf Tryd.f28)) 3) (f28_p38_mk n_67 n_68 s_70 n_71 n_72 es_73 full_74 s_75 n_76 n_77 s_78 n_79 n_80 i_81 n_82 es_83 n_69) (loopK N (normK f28_C 38) fun e s => K e (normOut f28_C 38 e s)) := by kernel_rfl
noncomputable def f28_p32_mk (n53 : Int) (s55 : ByteArray) (n56 : Int) (n57 : Int) (es58 : List (List PC)) (full59 : Bool) (s60 : ByteArray) (n61 : Int) (n62 : Int) (s63 : ByteArray) (n64 : Int) (n65 : Int) (i66 : Nat) (n67 : Nat) (es68 : List (List PC)) (x : Int) : St := ⟨mkS 85 [(2, .w (.one (.ptr 0 0 0))), (4, .w (.one (.ptr 1 0 0))), (7, .w (.one (.ptr 2 0 0))), (9, I n53), (10, I x)], [.box [.p (pS s55), .p (pI n56), .p (pI n57), .p (.sl 5 es58 full59)], .box [.p (pS s60), .p (pI n61), .p (pI n62), .p (.sl 5 [] true)], .box [.p (pS s63), .p (pI n64), .p (pI n65), .ref 3 i66 n67], .vec 5 es68 true]⟩
set_option maxRecDepth 100000 in
theorem f28_p32e0 (n_104 : Int) (n_105 : Int) (s_106 : ByteArray) (n_107 : Int) (n_108 : Int) (es_109 : List (List PC)) (full_110 : Bool) (s_111 : ByteArray) (n_112 : Int) (n_113 : Int) (s_114 : ByteArray) (n_115 : Int) (n_116 : Int) (i_117 : Nat) (n_118 : Nat) (es_119 : List (List PC)) (N : St → Prop) (K : TExit → St → Prop) : (f28_p32b0 n_104 n_105 s_106 n_107 n_108 es_109 full_110 s_111 n_112 n_113 s_114 n_115 n_116 i_117 n_118 es_119 (fun z1 => N (f28_p32_mk n_104 s_106 n_107 n_108 es_109 full_110 s_111 n_112 n_113 s_114 n_115 n_116 i_117 n_118 es_119 z1)) (fun n0_120 s0_121 n0_122 n0_123 => K .ret ⟨mkS 85 [(4, .w (.one (.ptr 0 0 0))), (5, I n0_120)], [.box [.p (pS s0_121), .p (pI n0_122), .p (pI n0_123), .p (.sl 5 [] true)]]⟩) (fun (_ : Unit) => K (.exit 4) ⟨mkS 85 [(2, .w (.one (.ptr 0 0 0))), (4, .w (.one (.ptr 1 0 0))), (7, .w (.one (.ptr 2 0 0))), (9, I n_104)], [.box [.p (pS s_106), .p (pI n_107), .p (pI n_108), .p (.sl 5 es_109 full_110)], .box [.p (pS s_111), .p (pI n_112), .p (pI n_113), .p (.sl 5 [] true)], .box [.p (pS s_114), .p (pI n_115), .p (pI n_116), .ref 3 i_117 n_118], .vec 5 es_119 true]⟩)) = execT f28_C (nthC (bodies (bodyOf Tryd.f28)) 2) (f28_p32_mk n_104 s_106 n_107 n_108 es_109 full_110 s_111 n_112 n_113 s_114 n_115 n_116 i_117 n_118 es_119 n_105) (loopK N (normK f28_C 32) fun e s => K e (normOut f28_C 32 e s)) := by kernel_rfl
noncomputable def f28_p26_mk (s39 : ByteArray) (n40 : Int) (n41 : Int) (es42 : List (List PC)) (full43 : Bool) (s44 : ByteArray) (n45 : Int) (n46 : Int) (s47 : ByteArray) (n48 : Int) (n49 : Int) (i50 : Nat) (n51 : Nat) (es52 : List (List PC)) (x : Int) : St := ⟨mkS 85 [(2, .w (.one (.ptr 0 0 0))), (4, .w (.one (.ptr 1 0 0))), (7, .w (.one (.ptr 2 0 0))), (9, I x)], [.box [.p (pS s39), .p (pI n40), .p (pI n41), .p (.sl 5 es42 full43)], .box [.p (pS s44), .p (pI n45), .p (pI n46), .p (.sl 5 [] true)], .box [.p (pS s47), .p (pI n48), .p (pI n49), .ref 3 i50 n51], .vec 5 es52 true]⟩
set_option maxRecDepth 100000 in
theorem f28_p26e0 (n_139 : Int) (s_140 : ByteArray) (n_141 : Int) (n_142 : Int) (es_143 : List (List PC)) (full_144 : Bool) (s_145 : ByteArray) (n_146 : Int) (n_147 : Int) (s_148 : ByteArray) (n_149 : Int) (n_150 : Int) (i_151 : Nat) (n_152 : Nat) (es_153 : List (List PC)) (N : St → Prop) (K : TExit → St → Prop) : (f28_p26b0 n_139 s_140 n_141 n_142 es_143 full_144 s_145 n_146 n_147 s_148 n_149 n_150 i_151 n_152 es_153 (fun z0 => N (f28_p26_mk s_140 n_141 n_142 es_143 full_144 s_145 n_146 n_147 s_148 n_149 n_150 i_151 n_152 es_153 z0)) (fun n0_154 s0_155 n0_156 n0_157 => K .ret ⟨mkS 85 [(4, .w (.one (.ptr 0 0 0))), (5, I n0_154)], [.box [.p (pS s0_155), .p (pI n0_156), .p (pI n0_157), .p (.sl 5 [] true)]]⟩) (fun (_ : Unit) => K (.exit 2) ⟨mkS 85 [(4, .w (.one (.ptr 0 0 0))), (7, .w (.one (.ptr 1 0 0)))], [.box [.p (pS s_145), .p (pI n_146), .p (pI n_147), .p (.sl 5 [] true)], .box [.p (pS s_148), .p (pI n_149), .p (pI n_150), .ref 2 i_151 n_152], .vec 5 es_153 true]⟩)) = execT f28_C (nthC (bodies (bodyOf Tryd.f28)) 1) (f28_p26_mk s_140 n_141 n_142 es_143 full_144 s_145 n_146 n_147 s_148 n_149 n_150 i_151 n_152 es_153 n_139) (loopK N (normK f28_C 26) fun e s => K e (normOut f28_C 26 e s)) := by kernel_rfl
set_option maxHeartbeats 4000000 in
theorem f28_p12_ok : LoopOk f28_C (nthC (bodies (bodyOf Tryd.f28)) 0) := by
  refine LoopOk.of f28_p12L (by kernel_rfl) fun σ K h => ?_
  have hk : loopKey (nthC (bodies (bodyOf Tryd.f28)) 0) = 12 := by kernel_rfl
  rw [hk] at h ⊢
  generalize hs : normK f28_C 12 σ = s at h
  obtain ⟨tm, hp⟩ := s
  unfold f28_p12L at h
  dsimp only at h
  obtain ⟨xx, yy, rfl, rfl, h⟩ := getS_elim h
  refine iter_of (f28_p12_mk xx.2.1 yy.1.1 yy.1.2.1 yy.1.2.2.1 yy.1.2.2.2.1.1 yy.1.2.2.2.1.2 yy.2.1.1 yy.2.1.2.1 yy.2.1.2.2.1 yy.2.2.1.1 yy.2.2.1.2.1 yy.2.2.1.2.2.1) (fun x N h => ?_) rounds _ σ (hs.trans (by kernel_rfl)) (LoopP.run h)
  obtain ⟨y0, y1, y2, y3⟩ := x
  rw [← f28_p12e0 xx.2.1 y0 yy.1.1 yy.1.2.1 yy.1.2.2.1 yy.1.2.2.2.1.1 yy.1.2.2.2.1.2 yy.2.1.1 yy.2.1.2.1 yy.2.1.2.2.1 yy.2.2.1.1 yy.2.2.1.2.1 yy.2.2.1.2.2.1 y1 y2 y3 N K]
  exact h
set_option maxHeartbeats 4000000 in
theorem f28_p38_ok : LoopOk f28_C (nthC (bodies (bodyOf Tryd.f28)) 3) := by
  refine LoopOk.of f28_p38L (by kernel_rfl) fun σ K h => ?_
  have hk : loopKey (nthC (bodies (bodyOf Tryd.f28)) 3) = 38 := by kernel_rfl
  rw [hk] at h ⊢
  generalize hs : normK f28_C 38 σ = s at h
  obtain ⟨tm, hp⟩ := s
  unfold f28_p38L at h
  dsimp only at h
  obtain ⟨xx, yy, rfl, rfl, h⟩ := getS_elim h
  refine iter_of (f28_p38_mk xx.2.2.2.2.2.2.2.1 xx.2.2.2.2.2.2.2.2.1 yy.1.1 yy.1.2.1 yy.1.2.2.1 yy.1.2.2.2.1.1 yy.1.2.2.2.1.2 yy.2.1.1 yy.2.1.2.1 yy.2.1.2.2.1 yy.2.2.1.1 yy.2.2.1.2.1 yy.2.2.1.2.2.1 yy.2.2.1.2.2.2.1.1 yy.2.2.1.2.2.2.1.2 yy.2.2.2.1) (fun x N h => ?_) rounds _ σ (hs.trans (by kernel_rfl)) (LoopP.run h)
  rw [← f28_p38e0 xx.2.2.2.2.2.2.2.1 xx.2.2.2.2.2.2.2.2.1 x yy.1.1 yy.1.2.1 yy.1.2.2.1 yy.1.2.2.2.1.1 yy.1.2.2.2.1.2 yy.2.1.1 yy.2.1.2.1 yy.2.1.2.2.1 yy.2.2.1.1 yy.2.2.1.2.1 yy.2.2.1.2.2.1 yy.2.2.1.2.2.2.1.1 yy.2.2.1.2.2.2.1.2 yy.2.2.2.1 N K]
  exact h
set_option maxHeartbeats 4000000 in
theorem f28_p32_ok : LoopOk f28_C (nthC (bodies (bodyOf Tryd.f28)) 2) := by
  refine LoopOk.of f28_p32L (by kernel_rfl) fun σ K h => ?_
  have hk : loopKey (nthC (bodies (bodyOf Tryd.f28)) 2) = 32 := by kernel_rfl
  rw [hk] at h ⊢
  generalize hs : normK f28_C 32 σ = s at h
  obtain ⟨tm, hp⟩ := s
  unfold f28_p32L at h
  dsimp only at h
  obtain ⟨xx, yy, rfl, rfl, h⟩ := getS_elim h
  refine iter_of (f28_p32_mk xx.2.2.2.2.2.2.2.1 yy.1.1 yy.1.2.1 yy.1.2.2.1 yy.1.2.2.2.1.1 yy.1.2.2.2.1.2 yy.2.1.1 yy.2.1.2.1 yy.2.1.2.2.1 yy.2.2.1.1 yy.2.2.1.2.1 yy.2.2.1.2.2.1 yy.2.2.1.2.2.2.1.1 yy.2.2.1.2.2.2.1.2 yy.2.2.2.1) (fun x N h => ?_) rounds _ σ (hs.trans (by kernel_rfl)) (LoopP.run h)
  rw [← f28_p32e0 xx.2.2.2.2.2.2.2.1 x yy.1.1 yy.1.2.1 yy.1.2.2.1 yy.1.2.2.2.1.1 yy.1.2.2.2.1.2 yy.2.1.1 yy.2.1.2.1 yy.2.1.2.2.1 yy.2.2.1.1 yy.2.2.1.2.1 yy.2.2.1.2.2.1 yy.2.2.1.2.2.2.1.1 yy.2.2.1.2.2.2.1.2 yy.2.2.2.1 N K]
  exact h
set_option maxHeartbeats 4000000 in
theorem f28_p26_ok : LoopOk f28_C (nthC (bodies (bodyOf Tryd.f28)) 1) := by
  refine LoopOk.of f28_p26L (by kernel_rfl) fun σ K h => ?_
  have hk : loopKey (nthC (bodies (bodyOf Tryd.f28)) 1) = 26 := by kernel_rfl
  rw [hk] at h ⊢
  generalize hs : normK f28_C 26 σ = s at h
  obtain ⟨tm, hp⟩ := s
  unfold f28_p26L at h
  dsimp only at h
  obtain ⟨xx, yy, rfl, rfl, h⟩ := getS_elim h
  refine iter_of (f28_p26_mk yy.1.1 yy.1.2.1 yy.1.2.2.1 yy.1.2.2.2.1.1 yy.1.2.2.2.1.2 yy.2.1.1 yy.2.1.2.1 yy.2.1.2.2.1 yy.2.2.1.1 yy.2.2.1.2.1 yy.2.2.1.2.2.1 yy.2.2.1.2.2.2.1.1 yy.2.2.1.2.2.2.1.2 yy.2.2.2.1) (fun x N h => ?_) rounds _ σ (hs.trans (by kernel_rfl)) (LoopP.run h)
  rw [← f28_p26e0 x yy.1.1 yy.1.2.1 yy.1.2.2.1 yy.1.2.2.2.1.1 yy.1.2.2.2.1.2 yy.2.1.1 yy.2.1.2.1 yy.2.1.2.2.1 yy.2.2.1.1 yy.2.2.1.2.1 yy.2.2.1.2.2.1 yy.2.2.1.2.2.2.1.1 yy.2.2.1.2.2.2.1.2 yy.2.2.2.1 N K]
  exact h
noncomputable def f28_G0 : List TV → List Entry → (TV → List Entry → Prop) → Prop := fun tm hp K => getS [.v (.pagg [.str, .int .i64, .int .i64, .sl 5]), .v (.one (.str))] [] tm hp fun (xx : ((ByteArray × (Int × (Int × ((List (List PC) × Bool) × Unit)))) × (ByteArray × Unit))) (yy : Unit) => f28 xx.1.1 xx.1.2.1 xx.1.2.2.1 xx.1.2.2.2.1.1 xx.1.2.2.2.1.2 xx.2.1 (fun s0_158 n0_159 n0_160 es0_161 full0_162 n0_163 => K (.tup [.pagg [pS s0_158, pI n0_159, pI n0_160, .sl 5 es0_161 full0_162], .one (.p (pI n0_163))]) [])
set_option maxRecDepth 100000 in
theorem f28_eq (s_164 : ByteArray) (n_165 : Int) (n_166 : Int) (es_167 : List (List PC)) (full_168 : Bool) (s_169 : ByteArray) (K : TV → List Entry → Prop) : (f28_d s_164 n_165 n_166 es_167 full_168 s_169 (fun s0_158 n0_159 n0_160 es0_161 full0_162 n0_163 => K (.tup [.pagg [pS s0_158, pI n0_159, pI n0_160, .sl 5 es0_161 full0_162], .one (.p (pI n0_163))]) [])) = funcT f28_C Tryd.f28 [.w (.pagg [pS s_164, pI n_165, pI n_166, .sl 5 es_167 full_168]), S s_169] [] K := by kernel_rfl
set_option maxHeartbeats 4000000 in
theorem f28_ok0 : FnOk Tryd.prog glob 28 f28_G0 := by
  refine FnOk.of_text (C := f28_C) tab_ok.ok (Known.add f60_G_ok (Known.add f17_G_ok (Known.none))) follows_ok (fn := Tryd.f28) (by kernel_rfl) (by kernel_rfl) (by kernel_rfl) (fun c hc => ?_) fun tm hp K h => ?_
  · have e : c = bodyOf Tryd.f28 := Option.some.inj (hc.symm.trans (by kernel_rfl))
    subst e
    exact ⟨LoopsOk.of [nthC (bodies (bodyOf Tryd.f28)) 0, nthC (bodies (bodyOf Tryd.f28)) 1, nthC (bodies (bodyOf Tryd.f28)) 2, nthC (bodies (bodyOf Tryd.f28)) 3] (by kernel_rfl) ⟨f28_p12_ok, f28_p26_ok, f28_p32_ok, f28_p38_ok, trivial⟩, TailsOk.of (tab := f28_tab) rfl [] (by kernel_rfl) trivial⟩
  · unfold f28_G0 at h
    obtain ⟨xx, yy, rfl, rfl, h⟩ := getS_elim h
    have e := (f28_eq xx.1.1 xx.1.2.1 xx.1.2.2.1 xx.1.2.2.2.1.1 xx.1.2.2.2.1.2 xx.2.1 K).trans (show _ = funcT f28_C Tryd.f28 (mkR _ xx) (mkE _ yy) K by kernel_rfl)
    rw [← e]
    exact h.run
noncomputable abbrev f28_G := f28_G0
theorem f28_G_ok : FnOk Tryd.prog glob 28 f28_G := f28_ok0
end Go.Eng.N
set_option linter.unusedVariables false
set_option maxRecDepth 100000
open Go Go.Eng Go.Proofs
namespace Go.Eng.N
/-! ### f29: plenum/plenumref39.Equal -/
noncomputable def f29_p8b0 (n21 : Int) (s22 : ByteArray) (n23 : Int) (n24 : Int) (es25 : List (List PC)) (full26 : Bool) (s27 : ByteArray) (n28 : Int) (n29 : Int) (es30 : List (List PC)) (full31 : Bool) (N0 : Int → Prop) (k0 : Bool → Prop) (k1 : Unit → Prop) : Prop := bB (decide (n21 < ((es25.length : Nat) : Int))) ((0 ≤ n21 ∧ n21 < ((es25.length : Nat) : Int)) ∧ cS (ext (List.getD es25 (Int.toNat n21) []) 0 5) fun s33 r32 => cI .i64 r32 fun n35 r34 => cI .i64 r34 fun n37 r36 => cI .i64 r36 fun n39 r38 => cI .i64 r38 fun n41 r40 => nilC r40 <| (0 ≤ n21 ∧ n21 < ((es30.length : Nat) : Int)) ∧ cS (ext (List.getD es30 (Int.toNat n21) []) 0 5) fun s43 r42 => cI .i64 r42 fun n45 r44 => cI .i64 r44 fun n47 r46 => cI .i64 r46 fun n49 r48 => cI .i64 r48 fun n51 r50 => nilC r50 <| bB (!((s33 == s43) && ((n35 == n45) && ((n37 == n47) && ((n39 == n49) && ((n41 == n51) && true)))))) (k0 false) (N0 (w64 (n21 + 1)))) (k1 ())
noncomputable def f29_p8 (s22 : ByteArray) (n23 : Int) (n24 : Int) (es25 : List (List PC)) (full26 : Bool) (s27 : ByteArray) (n28 : Int) (n29 : Int) (es30 : List (List PC)) (full31 : Bool) (k0 : Bool → Prop) (k1 : Unit → Prop) : Int → Prop := LoopP fun x N => f29_p8b0 x s22 n23 n24 es25 full26 s27 n28 n29 es30 full31 (fun n21 => N n21) k0 k1
noncomputable def f29_p7 (s11 : ByteArray) (n12 : Int) (n13 : Int) (es14 : List (List PC)) (full15 : Bool) (s16 : ByteArray) (n17 : Int) (n18 : Int) (es19 : List (List PC)) (full20 : Bool) (k0 : Bool → Prop) : Prop := f29_p8 s11 n12 n13 es14 full15 s16 n17 n18 es19 full20 (fun b52 => k0 b52) (fun (_ : Unit) => k0 true) 0
noncomputable def f29_d (s1 : ByteArray) (n2 : Int) (n3 : Int) (es4 : List (List PC)) (full5 : Bool) (s6 : ByteArray) (n7 : Int) (n8 : Int) (es9 : List (List PC)) (full10 : Bool) (k0 : Bool → Prop) : Prop := bB (!(s1.toList == s6.toList)) (k0 false) (bB (n2 != n7) (k0 false) (bB (n3 != n8) (k0 false) (bB (((es4.length : Nat) : Int) != ((es9.length : Nat) : Int)) (k0 false) (f29_p7 s1 n2 n3 es4 full5 s6 n7 n8 es9 full10 (fun b53 => k0 b53)))))
structure f29 (s1 : ByteArray) (n2 : Int) (n3 : Int) (es4 : List (List PC)) (full5 : Bool) (s6 : ByteArray) (n7 : Int) (n8 : Int) (es9 : List (List PC)) (full10 : Bool) (k0 : Bool → Prop) : Prop where
  run : f29_d s1 n2 n3 es4 full5 s6 n7 n8 es9 full10 k0
noncomputable def f29_p8L : Told := fun s K => match s with
  | ⟨tm, hp⟩ => getS [.skip 2, .v (.one (.ptr 0 0 0)), .v (.one (.ptr 1 0 0)), .skip 1, .v (.one (.int .i64)), .skip 46] [.box [.str, .int .i64, .int .i64, .sl 5], .box [.str, .int .i64, .int .i64, .sl 5]] tm hp fun (xx : (Unit × (Unit × (Unit × (Unit × (Int × (Unit × Unit))))))) (yy : ((ByteArray × (Int × (Int × ((List (List PC) × Bool) × Unit)))) × ((ByteArray × (Int × (Int × ((List (List PC) × Bool) × Unit)))) × Unit))) => f29_p8 yy.1.1 yy.1.2.1 yy.1.2.2.1 yy.1.2.2.2.1.1 yy.1.2.2.2.1.2 yy.2.1.1 yy.2.1.2.1 yy.2.1.2.2.1 yy.2.1.2.2.2.1.1 yy.2.1.2.2.2.1.2 (fun b0_0 => K .ret ⟨mkS 52 [(4, B b0_0)], []⟩) (fun (_ : Unit) => K (.exit 0) ⟨mkS 52 [], []⟩) xx.2.2.2.2.1
noncomputable def f29_p7L : Told := fun s K => match s with
  | ⟨tm, hp⟩ => getS [.skip 2, .v (.one (.ptr 0 0 0)), .v (.one (.ptr 1 0 0)), .skip 48] [.box [.str, .int .i64, .int .i64, .sl 5], .box [.str, .int .i64, .int .i64, .sl 5]] tm hp fun (xx : (Unit × (Unit × (Unit × (Unit × Unit))))) (yy : ((ByteArray × (Int × (Int × ((List (List PC) × Bool) × Unit)))) × ((ByteArray × (Int × (Int × ((List (List PC) × Bool) × Unit)))) × Unit))) => f29_p7 yy.1.1 yy.1.2.1 yy.1.2.2.1 yy.1.2.2.2.1.1 yy.1.2.2.2.1.2 yy.2.1.1 yy.2.1.2.1 yy.2.1.2.2.1 yy.2.1.2.2.2.1.1 yy.2.1.2.2.2.1.2 (fun b0_1 => K .ret ⟨mkS 52 [(4, B b0_1)], []⟩)
noncomputable def f29_tab : List (Nat × Told) := [(8, f29_p8L), (7, f29_p7L)]
noncomputable def f29_call : FuncId → List TV → List Entry → (TV → List Entry → Prop) → Prop := noCalls
noncomputable def f29_C : Ctx := { ty := tyOf tab, glob := glob, byRef := byRef, keep := fun k i => lookN [] (lookN [] ([(8, [(0, [2, 3, 5]), (2, [4]), (3, [])]), (7, [(0, [2, 3]), (1, [4]), (2, [4])])] : List (Nat × List (Nat × List Nat))) k) i, late := lookN [] ([] : List (Nat × List Nat)), nref := lookN [] ([] : List (Nat × List Nat)), nbox := lookN [] ([] : List (Nat × List (Nat × Nat))), take := [], rnil := false, m := 0, fz := true, loops := lookL f29_tab, call := f29_call }
noncomputable def f29_p8_mk (s22 : ByteArray) (n23 : Int) (n24 : Int) (es25 : List (List PC)) (full26 : Bool) (s27 : ByteArray) (n28 : Int) (n29 : Int) (es30 : List (List PC)) (full31 : Bool) (x : Int) : St := ⟨mkS 52 [(2, .w (.one (.ptr 0 0 0))), (3, .w (.one (.ptr 1 0 0))), (5, I x)], [.box [.p (pS s22), .p (pI n23), .p (pI n24), .p (.sl 5 es25 full26)], .box [.p (pS s27), .p (pI n28), .p (pI n29), .p (.sl 5 es30 full31)]]⟩
set_option maxRecDepth 100000 in
theorem f29_p8e0 (n_13 : Int) (s_14 : ByteArray) (n_15 : Int) (n_16 : Int) (es_17 : List (List PC)) (full_18 : Bool) (s_19 : ByteArray) (n_20 : Int) (n_21 : Int) (es_22 : List (List PC)) (full_23 : Bool) (N : St → Prop) (K : TExit → St → Prop) : (f29_p8b0 n_13 s_14 n_15 n_16 es_17 full_18 s_19 n_20 n_21 es_22 full_23 (fun z0 => N (f29_p8_mk s_14 n_15 n_16 es_17 full_18 s_19 n_20 n_21 es_22 full_23 z0)) (fun b0_24 => K .ret ⟨mkS 52 [(4, B b0_24)], []⟩) (fun (_ : Unit) => K (.exit 0) ⟨mkS 52 [], []⟩)) = execT f29_C (nthC (bodies (bodyOf Tryd.f29)) 0) (f29_p8_mk s_14 n_15 n_16 es_17 full_18 s_19 n_20 n_21 es_22 full_23 n_13) (loopK N (normK f29_C 8) fun e s => K e (normOut f29_C 8 e s)) := by kernel_rfl
set_option maxRecDepth 100000 in
theorem f29_p7e0 (s_25 : ByteArray) (n_26 : Int) (n_27 : Int) (es_28 : List (List PC)) (full_29 : Bool) (s_30 : ByteArray) (n_31 : Int) (n_32 : Int) (es_33 : List (List PC)) (full_34 : Bool) (K : TExit → St → Prop) : (f29_p7 s_25 n_26 n_27 es_28 full_29 s_30 n_31 n_32 es_33 full_34 (fun b0_35 => K .ret ⟨mkS 52 [(4, B b0_35)], []⟩)) = execT f29_C (nthC (tails (bodyOf Tryd.f29)) 1) ⟨mkS 52 [(2, .w (.one (.ptr 0 0 0))), (3, .w (.one (.ptr 1 0 0)))], [.box [.p (pS s_25), .p (pI n_26), .p (pI n_27), .p (.sl 5 es_28 full_29)], .box [.p (pS s_30), .p (pI n_31), .p (pI n_32), .p (.sl 5 es_33 full_34)]]⟩ (fun e s => K e (normOut f29_C 7 e s)) := by kernel_rfl
set_option maxHeartbeats 4000000 in
theorem f29_p8_ok : LoopOk f29_C (nthC (bodies (bodyOf Tryd.f29)) 0) := by
  refine LoopOk.of f29_p8L (by kernel_rfl) fun σ K h => ?_
  have hk : loopKey (nthC (bodies (bodyOf Tryd.f29)) 0) = 8 := by kernel_rfl
  rw [hk] at h ⊢
  generalize hs : normK f29_C 8 σ = s at h
  obtain ⟨tm, hp⟩ := s
  unfold f29_p8L at h
  dsimp only at h
  obtain ⟨xx, yy, rfl, rfl, h⟩ := getS_elim h
  refine iter_of (f29_p8_mk yy.1.1 yy.1.2.1 yy.1.2.2.1 yy.1.2.2.2.1.1 yy.1.2.2.2.1.2 yy.2.1.1 yy.2.1.2.1 yy.2.1.2.2.1 yy.2.1.2.2.2.1.1 yy.2.1.2.2.2.1.2) (fun x N h => ?_) rounds _ σ (hs.trans (by kernel_rfl)) (LoopP.run h)
  rw [← f29_p8e0 x yy.1.1 yy.1.2.1 yy.1.2.2.1 yy.1.2.2.2.1.1 yy.1.2.2.2.1.2 yy.2.1.1 yy.2.1.2.1 yy.2.1.2.2.1 yy.2.1.2.2.2.1.1 yy.2.1.2.2.2.1.2 N K]
  exact h
set_option maxHeartbeats 4000000 in
theorem f29_p7_ok : TailOk f29_C (nthC (tails (bodyOf Tryd.f29)) 1) := by
  refine TailOk.of f29_p7L (by kernel_rfl) fun σ K h => ?_
  have hk : joinKey (nthC (tails (bodyOf Tryd.f29)) 1) = 7 := by kernel_rfl
  rw [hk] at h ⊢
  generalize hs : normK f29_C 7 σ = s at h
  obtain ⟨tm, hp⟩ := s
  unfold f29_p7L at h
  dsimp only at h
  obtain ⟨xx, yy, rfl, rfl, h⟩ := getS_elim h
  have q : normK f29_C 7 σ = (⟨mkS 52 [(2, .w (.one (.ptr 0 0 0))), (3, .w (.one (.ptr 1 0 0)))], [.box [.p (pS yy.1.1), .p (pI yy.1.2.1), .p (pI yy.1.2.2.1), .p (.sl 5 yy.1.2.2.2.1.1 yy.1.2.2.2.1.2)], .box [.p (pS yy.2.1.1), .p (pI yy.2.1.2.1), .p (pI yy.2.1.2.2.1), .p (.sl 5 yy.2.1.2.2.2.1.1 yy.2.1.2.2.2.1.2)]]⟩ : St) := hs.trans (by kernel_rfl)
  rw [← hs, q, ← f29_p7e0 yy.1.1 yy.1.2.1 yy.1.2.2.1 yy.1.2.2.2.1.1 yy.1.2.2.2.1.2 yy.2.1.1 yy.2.1.2.1 yy.2.1.2.2.1 yy.2.1.2.2.2.1.1 yy.2.1.2.2.2.1.2 K]
  exact h
noncomputable def f29_G0 : List TV → List Entry → (TV → List Entry → Prop) → Prop := fun tm hp K => getS [.v (.pagg [.str, .int .i64, .int .i64, .sl 5]), .v (.pagg [.str, .int .i64, .int .i64, .sl 5])] [] tm hp fun (xx : ((ByteArray × (Int × (Int × ((List (List PC) × Bool) × Unit)))) × ((ByteArray × (Int × (Int × ((List (List PC) × Bool) × Unit)))) × Unit))) (yy : Unit) => f29 xx.1.1 xx.1.2.1 xx.1.2.2.1 xx.1.2.2.2.1.1 xx.1.2.2.2.1.2 xx.2.1.1 xx.2.1.2.1 xx.2.1.2.2.1 xx.2.1.2.2.2.1.1 xx.2.1.2.2.2.1.2 (fun b0_36 => K (B b0_36) [])
set_option maxRecDepth 100000 in
theorem f29_eq (s_37 : ByteArray) (n_38 : Int) (n_39 : Int) (es_40 : List (List PC)) (full_41 : Bool) (s_42 : ByteArray) (n_43 : Int) (n_44 : Int) (es_45 : List (List PC)) (full_46 : Bool) (K : TV → List Entry → Prop) : (f29_d s_37 n_38 n_39 es_40 full_41 s_42 n_43 n_44 es_45 full_46 (fun b0_36 => K (B b0_36) [])) = funcT f29_C Tryd.f29 [.w (.pagg [pS s_37, pI n_38, pI n_39, .sl 5 es_40 full_41]), .w (.pagg [pS s_42, pI n_43, pI n_44, .sl 5 es_45 full_46])] [] K := by kernel_rfl
set_option maxHeartbeats 4000000 in
theorem f29_ok0 : FnOk Tryd.prog glob 29 f29_G0 := by
  refine FnOk.of_text (C := f29_C) tab_ok.ok (Known.none) follows_ok (fn := Tryd.f29) (by kernel_rfl) (by kernel_rfl) (by kernel_rfl) (fun c hc => ?_) fun tm hp K h => ?_
  · have e : c = bodyOf Tryd.f29 := Option.some.inj (hc.symm.trans (by kernel_rfl))
    subst e
    exact ⟨LoopsOk.of [nthC (bodies (bodyOf Tryd.f29)) 0] (by kernel_rfl) ⟨f29_p8_ok, trivial⟩, TailsOk.of (tab := f29_tab) rfl [nthC (tails (bodyOf Tryd.f29)) 1] (by kernel_rfl) ⟨f29_p7_ok, trivial⟩⟩
  · unfold f29_G0 at h
    obtain ⟨xx, yy, rfl, rfl, h⟩ := getS_elim h
    have e := (f29_eq xx.1.1 xx.1.2.1 xx.1.2.2.1 xx.1.2.2.2.1.1 xx.1.2.2.2.1.2 xx.2.1.1 xx.2.1.2.1 xx.2.1.2.2.1 xx.2.1.2.2.2.1.1 xx.2.1.2.2.2.1.2 K).trans (show _ = funcT f29_C Tryd.f29 (mkR _ xx) (mkE _ yy) K by kernel_rfl)
    rw [← e]
    exact h.run
noncomputable abbrev f29_G := f29_G0
theorem f29_G_ok : FnOk Tryd.prog glob 29 f29_G := f29_ok0
end Go.Eng.N
set_option linter.unusedVariables false
set_option maxRecDepth 100000
open Go Go.Eng Go.Proofs
namespace Go.Eng.N
/-! ### f13: plenum/plenumref39.Small -/
noncomputable def f13_p8b0 (n11 : Int) (s12 : ByteArray) (n13 : Int) (n14 : Int) (es15 : List (List PC)) (full16 : Bool) (N0 : Int → Prop) (k0 : Bool → Prop) (k1 : Unit → Prop) : Prop := bB (decide (n11 < ((es15.length : Nat) : Int))) ((0 ≤ n11 ∧ n11 < ((es15.length : Nat) : Int)) ∧ oS (ext (List.getD es15 (Int.toNat n11) []) 0 1) fun s17 => bB (decide (((s17.size : Nat) : Int) > 60)) (k0 false) (N0 (w64 (n11 + 1)))) (k1 ())
noncomputable def f13_p8 (s12 : ByteArray) (n13 : Int) (n14 : Int) (es15 : List (List PC)) (full16 : Bool) (k0 : Bool → Prop) (k1 : Unit → Prop) : Int → Prop := LoopP fun x N => f13_p8b0 x s12 n13 n14 es15 full16 (fun n11 => N n11) k0 k1
noncomputable def f13_p7 (s6 : ByteArray) (n7 : Int) (n8 : Int) (es9 : List (List PC)) (full10 : Bool) (k0 : Bool → Prop) : Prop := f13_p8 s6 n7 n8 es9 full10 (fun b18 => k0 b18) (fun (_ : Unit) => k0 true) 0
noncomputable def f13_d (s1 : ByteArray) (n2 : Int) (n3 : Int) (es4 : List (List PC)) (full5 : Bool) (k0 : Bool → Prop) : Prop := bB (decide (((es4.length : Nat) : Int) > 12)) (k0 false) (bB (decide (((s1.size : Nat) : Int) > 60)) (k0 false) (f13_p7 s1 n2 n3 es4 full5 (fun b19 => k0 b19)))
structure f13 (s1 : ByteArray) (n2 : Int) (n3 : Int) (es4 : List (List PC)) (full5 : Bool) (k0 : Bool → Prop) : Prop where
  run : f13_d s1 n2 n3 es4 full5 k0
noncomputable def f13_p8L : Told := fun s K => match s with
  | ⟨tm, hp⟩ => getS [.skip 1, .v (.one (.ptr 0 0 0)), .skip 1, .v (.one (.int .i64)), .skip 25] [.box [.str, .int .i64, .int .i64, .sl 5]] tm hp fun (xx : (Unit × (Unit × (Unit × (Int × (Unit × Unit)))))) (yy : ((ByteArray × (Int × (Int × ((List (List PC) × Bool) × Unit)))) × Unit)) => f13_p8 yy.1.1 yy.1.2.1 yy.1.2.2.1 yy.1.2.2.2.1.1 yy.1.2.2.2.1.2 (fun b0_0 => K .ret ⟨mkS 29 [(2, B b0_0)], []⟩) (fun (_ : Unit) => K (.exit 0) ⟨mkS 29 [], []⟩) xx.2.2.2.1
noncomputable def f13_p7L : Told := fun s K => match s with
  | ⟨tm, hp⟩ => getS [.skip 1, .v (.one (.ptr 0 0 0)), .skip 27] [.box [.str, .int .i64, .int .i64, .sl 5]] tm hp fun (xx : (Unit × (Unit × (Unit × Unit)))) (yy : ((ByteArray × (Int × (Int × ((List (List PC) × Bool) × Unit)))) × Unit)) => f13_p7 yy.1.1 yy.1.2.1 yy.1.2.2.1 yy.1.2.2.2.1.1 yy.1.2.2.2.1.2 (fun b0_1 => K .ret ⟨mkS 29 [(2, B b0_1)], []⟩)
noncomputable def f13_tab : List (Nat × Told) := [(8, f13_p8L), (7, f13_p7L)]
noncomputable def f13_call : FuncId → List TV → List Entry → (TV → List Entry → Prop) → Prop := noCalls
noncomputable def f13_C : Ctx := { ty := tyOf tab, glob := glob, byRef := byRef, keep := fun k i => lookN [] (lookN [] ([(8, [(0, [1, 3]), (2, [2]), (3, [])]), (7, [(0, [1]), (1, [2]), (2, [2])])] : List (Nat × List (Nat × List Nat))) k) i, late := lookN [] ([] : List (Nat × List Nat)), nref := lookN [] ([] : List (Nat × List Nat)), nbox := lookN [] ([] : List (Nat × List (Nat × Nat))), take := [], rnil := false, m := 0, fz := true, loops := lookL f13_tab, call := f13_call }
noncomputable def f13_p8_mk (s12 : ByteArray) (n13 : Int) (n14 : Int) (es15 : List (List PC)) (full16 : Bool) (x : Int) : St := ⟨mkS 29 [(1, .w (.one (.ptr 0 0 0))), (3, I x)], [.box [.p (pS s12), .p (pI n13), .p (pI n14), .p (.sl 5 es15 full16)]]⟩
set_option maxRecDepth 100000 in
theorem f13_p8e0 (n_8 : Int) (s_9 : ByteArray) (n_10 : Int) (n_11 : Int) (es_12 : List (List PC)) (full_13 : Bool) (N : St → Prop) (K : TExit → St → Prop) : (f13_p8b0 n_8 s_9 n_10 n_11 es_12 full_13 (fun z0 => N (f13_p8_mk s_9 n_10 n_11 es_12 full_13 z0)) (fun b0_14 => K .ret ⟨mkS 29 [(2, B b0_14)], []⟩) (fun (_ : Unit) => K (.exit 0) ⟨mkS 29 [], []⟩)) = execT f13_C (nthC (bodies (bodyOf Tryd.f13)) 0) (f13_p8_mk s_9 n_10 n_11 es_12 full_13 n_8) (loopK N (normK f13_C 8) fun e s => K e (normOut f13_C 8 e s)) := by kernel_rfl
set_option maxRecDepth 100000 in
theorem f13_p7e0 (s_15 : ByteArray) (n_16 : Int) (n_17 : Int) (es_18 : List (List PC)) (full_19 : Bool) (K : TExit → St → Prop) : (f13_p7 s_15 n_16 n_17 es_18 full_19 (fun b0_20 => K .ret ⟨mkS 29 [(2, B b0_20)], []⟩)) = execT f13_C (nthC (tails (bodyOf Tryd.f13)) 1) ⟨mkS 29 [(1, .w (.one (.ptr 0 0 0)))], [.box [.p (pS s_15), .p (pI n_16), .p (pI n_17), .p (.sl 5 es_18 full_19)]]⟩ (fun e s => K e (normOut f13_C 7 e s)) := by kernel_rfl
set_option maxHeartbeats 4000000 in
theorem f13_p8_ok : LoopOk f13_C (nthC (bodies (bodyOf Tryd.f13)) 0) := by
  refine LoopOk.of f13_p8L (by kernel_rfl) fun σ K h => ?_
  have hk : loopKey (nthC (bodies (bodyOf Tryd.f13)) 0) = 8 := by kernel_rfl
  rw [hk] at h ⊢
  generalize hs : normK f13_C 8 σ = s at h
  obtain ⟨tm, hp⟩ := s
  unfold f13_p8L at h
  dsimp only at h
  obtain ⟨xx, yy, rfl, rfl, h⟩ := getS_elim h
  refine iter_of (f13_p8_mk yy.1.1 yy.1.2.1 yy.1.2.2.1 yy.1.2.2.2.1.1 yy.1.2.2.2.1.2) (fun x N h => ?_) rounds _ σ (hs.trans (by kernel_rfl)) (LoopP.run h)
  rw [← f13_p8e0 x yy.1.1 yy.1.2.1 yy.1.2.2.1 yy.1.2.2.2.1.1 yy.1.2.2.2.1.2 N K]
  exact h
set_option maxHeartbeats 4000000 in
theorem f13_p7_ok : TailOk f13_C (nthC (tails (bodyOf Tryd.f13)) 1) := by
  refine TailOk.of f13_p7L (by kernel_rfl) fun σ K h => ?_
  have hk : joinKey (nthC (tails (bodyOf Tryd.f13)) 1) = 7 := by kernel_rfl
  rw [hk] at h ⊢
  generalize hs : normK f13_C 7 σ = s at h
  obtain ⟨tm, hp⟩ := s
  unfold f13_p7L at h
  dsimp only at h
  obtain ⟨xx, yy, rfl, rfl, h⟩ := getS_elim h
  have q : normK f13_C 7 σ = (⟨mkS 29 [(1, .w (.one (.ptr 0 0 0)))], [.box [.p (pS yy.1.1), .p (pI yy.1.2.1), .p (pI yy.1.2.2.1), .p (.sl 5 yy.1.2.2.2.1.1 yy.1.2.2.2.1.2)]]⟩ : St) := hs.trans (by kernel_rfl)
  rw [← hs, q, ← f13_p7e0 yy.1.1 yy.1.2.1 yy.1.2.2.1 yy.1.2.2.2.1.1 yy.1.2.2.2.1.2 K]
  exact h
noncomputable def f13_G0 : List TV → List Entry → (TV → List Entry → Prop) → Prop := fun tm hp K => getS [.v (.pagg [.str, .int .i64, .int .i64, .sl 5])] [] tm hp fun (xx : ((ByteArray × (Int × (Int × ((List (List PC) × Bool) × Unit)))) × Unit)) (yy : Unit) => f13 xx.1.1 xx.1.2.1 xx.1.2.2.1 xx.1.2.2.2.1.1 xx.1.2.2.2.1.2 (fun b0_21 => K (B b0_21) [])
set_option maxRecDepth 100000 in
theorem f13_eq (s_22 : ByteArray) (n_23 : Int) (n_24 : Int) (es_25 : List (List PC)) (full_26 : Bool) (K : TV → List Entry → Prop) : (f13_d s_22 n_23 n_24 es_25 full_26 (fun b0_21 => K (B b0_21) [])) = funcT f13_C Tryd.f13 [.w (.pagg [pS s_22, pI n_23, pI n_24, .sl 5 es_25 full_26])] [] K := by kernel_rfl
set_option maxHeartbeats 4000000 in
theorem f13_ok0 : FnOk Tryd.prog glob 13 f13_G0 := by
  refine FnOk.of_text (C := f13_C) tab_ok.ok (Known.none) follows_ok (fn := Tryd.f13) (by kernel_rfl) (by kernel_rfl) (by kernel_rfl) (fun c hc => ?_) fun tm hp K h => ?_
  · have e : c = bodyOf Tryd.f13 := Option.some.inj (hc.symm.trans (by kernel_rfl))
    subst e
    exact ⟨LoopsOk.of [nthC (bodies (bodyOf Tryd.f13)) 0] (by kernel_rfl) ⟨f13_p8_ok, trivial⟩, TailsOk.of (tab := f13_tab) rfl [nthC (tails (bodyOf Tryd.f13)) 1] (by kernel_rfl) ⟨f13_p7_ok, trivial⟩⟩
  · unfold f13_G0 at h
    obtain ⟨xx, yy, rfl, rfl, h⟩ := getS_elim h
    have e := (f13_eq xx.1.1 xx.1.2.1 xx.1.2.2.1 xx.1.2.2.2.1.1 xx.1.2.2.2.1.2 K).trans (show _ = funcT f13_C Tryd.f13 (mkR _ xx) (mkE _ yy) K by kernel_rfl)
    rw [← e]
    exact h.run
noncomputable abbrev f13_G := f13_G0
theorem f13_G_ok : FnOk Tryd.prog glob 13 f13_G := f13_ok0
end Go.Eng.N
set_option linter.unusedVariables false
set_option maxRecDepth 100000
open Go Go.Eng Go.Proofs
namespace Go.Eng.N
/-! ### f23: plenum/plenumlaw39.list -/
noncomputable def f23_p8b0 (es5 : List (List PC)) (full6 : Bool) (es7 : List (List PC)) (full8 : Bool) (n9 : Int) (N0 : Int → Prop) (k0 : Bool → Prop) (k1 : Unit → Prop) : Prop := bB (decide (n9 < ((es5.length : Nat) : Int))) ((0 ≤ n9 ∧ n9 < ((es5.length : Nat) : Int)) ∧ oS (ext (List.getD es5 (Int.toNat n9) []) 0 1) fun s10 => (0 ≤ n9 ∧ n9 < ((es7.length : Nat) : Int)) ∧ oS (ext (List.getD es7 (Int.toNat n9) []) 0 1) fun s11 => bB (!(s10.toList == s11.toList)) (k0 false) (N0 (w64 (n9 + 1)))) (k1 ())
noncomputable def f23_p8 (es5 : List (List PC)) (full6 : Bool) (es7 : List (List PC)) (full8 : Bool) (k0 : Bool → Prop) (k1 : Unit → Prop) : Int → Prop := LoopP fun x N => f23_p8b0 es5 full6 es7 full8 x (fun n9 => N n9) k0 k1
noncomputable def f23_d (es1 : List (List PC)) (full2 : Bool) (es3 : List (List PC)) (full4 : Bool) (k0 : Bool → Prop) : Prop := bB (((es1.length : Nat) : Int) != ((es3.length : Nat) : Int)) (k0 false) (f23_p8 es1 full2 es3 full4 (fun b12 => k0 b12) (fun (_ : Unit) => k0 true) 0)
structure f23 (es1 : List (List PC)) (full2 : Bool) (es3 : List (List PC)) (full4 : Bool) (k0 : Bool → Prop) : Prop where
  run : f23_d es1 full2 es3 full4 k0
noncomputable def f23_p8L : Told := fun s K => match s with
  | ⟨tm, hp⟩ => getS [.v (.one (.sl 1)), .v (.one (.sl 1)), .skip 3, .v (.one (.int .i64)), .skip 20] [] tm hp fun (xx : ((List (List PC) × Bool) × ((List (List PC) × Bool) × (Unit × (Int × (Unit × Unit)))))) (yy : Unit) => f23_p8 xx.1.1 xx.1.2 xx.2.1.1 xx.2.1.2 (fun b0_0 => K .ret ⟨mkS 26 [(4, B b0_0)], []⟩) (fun (_ : Unit) => K (.exit 0) ⟨mkS 26 [], []⟩) xx.2.2.2.1
noncomputable def f23_tab : List (Nat × Told) := [(8, f23_p8L)]
noncomputable def f23_call : FuncId → List TV → List Entry → (TV → List Entry → Prop) → Prop := noCalls
noncomputable def f23_C : Ctx := { ty := tyOf tab, glob := glob, byRef := byRef, keep := fun k i => lookN [] (lookN [] ([(8, [(0, [0, 1, 5]), (2, [4]), (3, [])])] : List (Nat × List (Nat × List Nat))) k) i, late := lookN [] ([] : List (Nat × List Nat)), nref := lookN [] ([] : List (Nat × List Nat)), nbox := lookN [] ([] : List (Nat × List (Nat × Nat))), take := [], rnil := false, m := 0, fz := true, loops := lookL f23_tab, call := f23_call }
noncomputable def f23_p8_mk (es5 : List (List PC)) (full6 : Bool) (es7 : List (List PC)) (full8 : Bool) (x : Int) : St := ⟨mkS 26 [(0, .w (.one (.p (.sl 1 es5 full6)))), (1, .w (.one (.p (.sl 1 es7 full8)))), (5, I x)], []⟩
set_option maxRecDepth 100000 in
theorem f23_p8e0 (es_6 : List (List PC)) (full_7 : Bool) (es_8 : List (List PC)) (full_9 : Bool) (n_10 : Int) (N : St → Prop) (K : TExit → St → Prop) : (f23_p8b0 es_6 full_7 es_8 full_9 n_10 (fun z4 => N (f23_p8_mk es_6 full_7 es_8 full_9 z4)) (fun b0_11 => K .ret ⟨mkS 26 [(4, B b0_11)], []⟩) (fun (_ : Unit) => K (.exit 0) ⟨mkS 26 [], []⟩)) = execT f23_C (nthC (bodies (bodyOf Tryd.f23)) 0) (f23_p8_mk es_6 full_7 es_8 full_9 n_10) (loopK N (normK f23_C 8) fun e s => K e (normOut f23_C 8 e s)) := by kernel_rfl
set_option maxHeartbeats 4000000 in
theorem f23_p8_ok : LoopOk f23_C (nthC (bodies (bodyOf Tryd.f23)) 0) := by
  refine LoopOk.of f23_p8L (by kernel_rfl) fun σ K h => ?_
  have hk : loopKey (nthC (bodies (bodyOf Tryd.f23)) 0) = 8 := by kernel_rfl
  rw [hk] at h ⊢
  generalize hs : normK f23_C 8 σ = s at h
  obtain ⟨tm, hp⟩ := s
  unfold f23_p8L at h
  dsimp only at h
  obtain ⟨xx, yy, rfl, rfl, h⟩ := getS_elim h
  refine iter_of (f23_p8_mk xx.1.1 xx.1.2 xx.2.1.1 xx.2.1.2) (fun x N h => ?_) rounds _ σ (hs.trans (by kernel_rfl)) (LoopP.run h)
  rw [← f23_p8e0 xx.1.1 xx.1.2 xx.2.1.1 xx.2.1.2 x N K]
  exact h
noncomputable def f23_G0 : List TV → List Entry → (TV → List Entry → Prop) → Prop := fun tm hp K => getS [.v (.one (.sl 1)), .v (.one (.sl 1))] [] tm hp fun (xx : ((List (List PC) × Bool) × ((List (List PC) × Bool) × Unit))) (yy : Unit) => f23 xx.1.1 xx.1.2 xx.2.1.1 xx.2.1.2 (fun b0_12 => K (B b0_12) [])
set_option maxRecDepth 100000 in
theorem f23_eq (es_13 : List (List PC)) (full_14 : Bool) (es_15 : List (List PC)) (full_16 : Bool) (K : TV → List Entry → Prop) : (f23_d es_13 full_14 es_15 full_16 (fun b0_12 => K (B b0_12) [])) = funcT f23_C Tryd.f23 [.w (.one (.p (.sl 1 es_13 full_14))), .w (.one (.p (.sl 1 es_15 full_16)))] [] K := by kernel_rfl
set_option maxHeartbeats 4000000 in
theorem f23_ok0 : FnOk Tryd.prog glob 23 f23_G0 := by
  refine FnOk.of_text (C := f23_C) tab_ok.ok (Known.none) follows_ok (fn := Tryd.f23) (by kernel_rfl) (by kernel_rfl) (by kernel_rfl) (fun c hc => ?_) fun tm hp K h => ?_
  · have e : c = bodyOf Tryd.f23 := Option.some.inj (hc.symm.trans (by kernel_rfl))
    subst e
    exact ⟨LoopsOk.of [nthC (bodies (bodyOf Tryd.f23)) 0] (by kernel_rfl) ⟨f23_p8_ok, trivial⟩, TailsOk.of (tab := f23_tab) rfl [] (by kernel_rfl) trivial⟩
  · unfold f23_G0 at h
    obtain ⟨xx, yy, rfl, rfl, h⟩ := getS_elim h
    have e := (f23_eq xx.1.1 xx.1.2 xx.2.1.1 xx.2.1.2 K).trans (show _ = funcT f23_C Tryd.f23 (mkR _ xx) (mkE _ yy) K by kernel_rfl)
    rw [← e]
    exact h.run
noncomputable abbrev f23_G := f23_G0
theorem f23_G_ok : FnOk Tryd.prog glob 23 f23_G := f23_ok0
end Go.Eng.N
set_option linter.unusedVariables false
set_option maxRecDepth 100000
open Go Go.Eng Go.Proofs
namespace Go.Eng.N
/-! ### f24: plenum/plenumlaw39.same -/
noncomputable def f24_p8b0 (es5 : List (List PC)) (full6 : Bool) (es7 : List (List PC)) (full8 : Bool) (n9 : Int) (N0 : Int → Prop) (k0 : Bool → Prop) (k1 : Unit → Prop) : Prop := bB (decide (n9 < ((es5.length : Nat) : Int))) ((0 ≤ n9 ∧ n9 < ((es5.length : Nat) : Int)) ∧ oS (ext (List.getD es5 (Int.toNat n9) []) 0 1) fun s10 => (0 ≤ n9 ∧ n9 < ((es7.length : Nat) : Int)) ∧ oS (ext (List.getD es7 (Int.toNat n9) []) 0 1) fun s11 => bB (!(s10.toList == s11.toList)) (k0 false) ((0 ≤ n9 ∧ n9 < ((es5.length : Nat) : Int)) ∧ cI .i64 (ext (List.getD es5 (Int.toNat n9) []) 1 7) fun n13 r12 => cS r12 fun s15 r14 => cI .i64 r14 fun n17 r16 => cI .i64 r16 fun n19 r18 => cI .i64 r18 fun n21 r20 => cI .i64 r20 fun n23 r22 => cI .i64 r22 fun n25 r24 => nilC r24 <| (0 ≤ n9 ∧ n9 < ((es7.length : Nat) : Int)) ∧ cI .i64 (ext (List.getD es7 (Int.toNat n9) []) 1 7) fun n27 r26 => cS r26 fun s29 r28 => cI .i64 r28 fun n31 r30 => cI .i64 r30 fun n33 r32 => cI .i64 r32 fun n35 r34 => cI .i64 r34 fun n37 r36 => cI .i64 r36 fun n39 r38 => nilC r38 <| bB (!((n13 == n27) && ((s15 == s29) && ((n17 == n31) && ((n19 == n33) && ((n21 == n35) && ((n23 == n37) && ((n25 == n39) && true)))))))) (k0 false) ((0 ≤ n9 ∧ n9 < ((es5.length : Nat) : Int)) ∧ oI .i64 (ext (List.getD es5 (Int.toNat n9) []) 8 1) fun n40 => (0 ≤ n9 ∧ n9 < ((es7.length : Nat) : Int)) ∧ oI .i64 (ext (List.getD es7 (Int.toNat n9) []) 8 1) fun n41 => bB (n40 != n41) (k0 false) ((0 ≤ n9 ∧ n9 < ((es5.length : Nat) : Int)) ∧ oB (ext (List.getD es5 (Int.toNat n9) []) 9 1) fun b42 => (0 ≤ n9 ∧ n9 < ((es7.length : Nat) : Int)) ∧ oB (ext (List.getD es7 (Int.toNat n9) []) 9 1) fun b43 => bB (!(b42 == b43)) (k0 false) (N0 (w64 (n9 + 1))))))) (k1 ())
noncomputable def f24_p8 (es5 : List (List PC)) (full6 : Bool) (es7 : List (List PC)) (full8 : Bool) (k0 : Bool → Prop) (k1 : Unit → Prop) : Int → Prop := LoopP fun x N => f24_p8b0 es5 full6 es7 full8 x (fun n9 => N n9) k0 k1
noncomputable def f24_d (es1 : List (List PC)) (full2 : Bool) (es3 : List (List PC)) (full4 : Bool) (k0 : Bool → Prop) : Prop := bB (((es1.length : Nat) : Int) != ((es3.length : Nat) : Int)) (k0 false) (f24_p8 es1 full2 es3 full4 (fun b44 => k0 b44) (fun (_ : Unit) => k0 true) 0)
structure f24 (es1 : List (List PC)) (full2 : Bool) (es3 : List (List PC)) (full4 : Bool) (k0 : Bool → Prop) : Prop where
  run : f24_d es1 full2 es3 full4 k0
noncomputable def f24_p8L : Told := fun s K => match s with
  | ⟨tm, hp⟩ => getS [.v (.one (.sl 10)), .v (.one (.sl 10)), .skip 3, .v (.one (.int .i64)), .skip 61] [] tm hp fun (xx : ((List (List PC) × Bool) × ((List (List PC) × Bool) × (Unit × (Int × (Unit × Unit)))))) (yy : Unit) => f24_p8 xx.1.1 xx.1.2 xx.2.1.1 xx.2.1.2 (fun b0_0 => K .ret ⟨mkS 67 [(4, B b0_0)], []⟩) (fun (_ : Unit) => K (.exit 0) ⟨mkS 67 [], []⟩) xx.2.2.2.1
noncomputable def f24_tab : List (Nat × Told) := [(8, f24_p8L)]
noncomputable def f24_call : FuncId → List TV → List Entry → (TV → List Entry → Prop) → Prop := noCalls
noncomputable def f24_C : Ctx := { ty := tyOf tab, glob := glob, byRef := byRef, keep := fun k i => lookN [] (lookN [] ([(8, [(0, [0, 1, 5]), (2, [4]), (3, [])])] : List (Nat × List (Nat × List Nat))) k) i, late := lookN [] ([] : List (Nat × List Nat)), nref := lookN [] ([] : List (Nat × List Nat)), nbox := lookN [] ([] : List (Nat × List (Nat × Nat))), take := [], rnil := false, m := 0, fz := true, loops := lookL f24_tab, call := f24_call }
noncomputable def f24_p8_mk (es5 : List (List PC)) (full6 : Bool) (es7 : List (List PC)) (full8 : Bool) (x : Int) : St := ⟨mkS 67 [(0, .w (.one (.p (.sl 10 es5 full6)))), (1, .w (.one (.p (.sl 10 es7 full8)))), (5, I x)], []⟩
set_option maxRecDepth 100000 in
theorem f24_p8e0 (es_6 : List (List PC)) (full_7 : Bool) (es_8 : List (List PC)) (full_9 : Bool) (n_10 : Int) (N : St → Prop) (K : TExit → St → Prop) : (f24_p8b0 es_6 full_7 es_8 full_9 n_10 (fun z4 => N (f24_p8_mk es_6 full_7 es_8 full_9 z4)) (fun b0_11 => K .ret ⟨mkS 67 [(4, B b0_11)], []⟩) (fun (_ : Unit) => K (.exit 0) ⟨mkS 67 [], []⟩)) = execT f24_C (nthC (bodies (bodyOf Tryd.f24)) 0) (f24_p8_mk es_6 full_7 es_8 full_9 n_10) (loopK N (normK f24_C 8) fun e s => K e (normOut f24_C 8 e s)) := by kernel_rfl
set_option maxHeartbeats 4000000 in
theorem f24_p8_ok : LoopOk f24_C (nthC (bodies (bodyOf Tryd.f24)) 0) := by
  refine LoopOk.of f24_p8L (by kernel_rfl) fun σ K h => ?_
  have hk : loopKey (nthC (bodies (bodyOf Tryd.f24)) 0) = 8 := by kernel_rfl
  rw [hk] at h ⊢
  generalize hs : normK f24_C 8 σ = s at h
  obtain ⟨tm, hp⟩ := s
  unfold f24_p8L at h
  dsimp only at h
  obtain ⟨xx, yy, rfl, rfl, h⟩ := getS_elim h
  refine iter_of (f24_p8_mk xx.1.1 xx.1.2 xx.2.1.1 xx.2.1.2) (fun x N h => ?_) rounds _ σ (hs.trans (by kernel_rfl)) (LoopP.run h)
  rw [← f24_p8e0 xx.1.1 xx.1.2 xx.2.1.1 xx.2.1.2 x N K]
  exact h
noncomputable def f24_G0 : List TV → List Entry → (TV → List Entry → Prop) → Prop := fun tm hp K => getS [.v (.one (.sl 10)), .v (.one (.sl 10))] [] tm hp fun (xx : ((List (List PC) × Bool) × ((List (List PC) × Bool) × Unit))) (yy : Unit) => f24 xx.1.1 xx.1.2 xx.2.1.1 xx.2.1.2 (fun b0_12 => K (B b0_12) [])
set_option maxRecDepth 100000 in
theorem f24_eq (es_13 : List (List PC)) (full_14 : Bool) (es_15 : List (List PC)) (full_16 : Bool) (K : TV → List Entry → Prop) : (f24_d es_13 full_14 es_15 full_16 (fun b0_12 => K (B b0_12) [])) = funcT f24_C Tryd.f24 [.w (.one (.p (.sl 10 es_13 full_14))), .w (.one (.p (.sl 10 es_15 full_16)))] [] K := by kernel_rfl
set_option maxHeartbeats 4000000 in
theorem f24_ok0 : FnOk Tryd.prog glob 24 f24_G0 := by
  refine FnOk.of_text (C := f24_C) tab_ok.ok (Known.none) follows_ok (fn := Tryd.f24) (by kernel_rfl) (by kernel_rfl) (by kernel_rfl) (fun c hc => ?_) fun tm hp K h => ?_
  · have e : c = bodyOf Tryd.f24 := Option.some.inj (hc.symm.trans (by kernel_rfl))
    subst e
    exact ⟨LoopsOk.of [nthC (bodies (bodyOf Tryd.f24)) 0] (by kernel_rfl) ⟨f24_p8_ok, trivial⟩, TailsOk.of (tab := f24_tab) rfl [] (by kernel_rfl) trivial⟩
  · unfold f24_G0 at h
    obtain ⟨xx, yy, rfl, rfl, h⟩ := getS_elim h
    have e := (f24_eq xx.1.1 xx.1.2 xx.2.1.1 xx.2.1.2 K).trans (show _ = funcT f24_C Tryd.f24 (mkR _ xx) (mkE _ yy) K by kernel_rfl)
    rw [← e]
    exact h.run
noncomputable abbrev f24_G := f24_G0
theorem f24_G_ok : FnOk Tryd.prog glob 24 f24_G := f24_ok0
end Go.Eng.N
set_option linter.unusedVariables false
set_option maxRecDepth 100000
open Go Go.Eng Go.Proofs
namespace Go.Eng.N
/-! ### f37: plenum/notify.Line$1 -/
noncomputable def f37_d (n1 : Int) (k0 : Int → ByteArray → Int → Int → Prop) : Prop := k0 4 (⟨#[]⟩ : ByteArray) n1 0
structure f37 (n1 : Int) (k0 : Int → ByteArray → Int → Int → Prop) : Prop where
  run : f37_d n1 k0
noncomputable def f37_tab : List (Nat × Told) := []
noncomputable def f37_call : FuncId → List TV → List Entry → (TV → List Entry → Prop) → Prop := noCalls
noncomputable def f37_C : Ctx := { ty := tyOf tab, glob := glob, byRef := byRef, keep := fun k i => lookN [] (lookN [] ([] : List (Nat × List (Nat × List Nat))) k) i, late := lookN [] ([] : List (Nat × List Nat)), nref := lookN [] ([] : List (Nat × List Nat)), nbox := lookN [] ([] : List (Nat × List (Nat × Nat))), take := [], rnil := false, m := 0, fz := true, loops := lookL f37_tab, call := f37_call }
noncomputable def f37_G0 : List TV → List Entry → (TV → List Entry → Prop) → Prop := fun tm hp K => getS [.v (.one (.int .i64))] [] tm hp fun (xx : (Int × Unit)) (yy : Unit) => f37 xx.1 (fun n0_0 s0_1 n0_2 n0_3 => K (.w (.pagg [pI n0_0, pS s0_1, pI n0_2, pI n0_3])) [])
set_option maxRecDepth 100000 in
theorem f37_eq (n_4 : Int) (K : TV → List Entry → Prop) : (f37_d n_4 (fun n0_0 s0_1 n0_2 n0_3 => K (.w (.pagg [pI n0_0, pS s0_1, pI n0_2, pI n0_3])) [])) = funcT f37_C Tryd.f37 [I n_4] [] K := by kernel_rfl
set_option maxHeartbeats 4000000 in
theorem f37_ok0 : FnOk Tryd.prog glob 37 f37_G0 := by
  refine FnOk.of_text (C := f37_C) tab_ok.ok (Known.none) follows_ok (fn := Tryd.f37) (by kernel_rfl) (by kernel_rfl) (by kernel_rfl) (fun c hc => ?_) fun tm hp K h => ?_
  · have e : c = bodyOf Tryd.f37 := Option.some.inj (hc.symm.trans (by kernel_rfl))
    subst e
    exact ⟨LoopsOk.of [] (by kernel_rfl) trivial, TailsOk.of (tab := f37_tab) rfl [] (by kernel_rfl) trivial⟩
  · unfold f37_G0 at h
    obtain ⟨xx, yy, rfl, rfl, h⟩ := getS_elim h
    have e := (f37_eq xx.1 K).trans (show _ = funcT f37_C Tryd.f37 (mkR _ xx) (mkE _ yy) K by kernel_rfl)
    rw [← e]
    exact h.run
noncomputable abbrev f37_G := f37_G0
theorem f37_G_ok : FnOk Tryd.prog glob 37 f37_G := f37_ok0
end Go.Eng.N
set_option linter.unusedVariables false
set_option maxRecDepth 100000
open Go Go.Eng Go.Proofs
namespace Go.Eng.N
/-! ### f38: plenum/notify.word -/
noncomputable def f38_d (s1 : ByteArray) (k0 : Int → ByteArray → Int → Int → Prop) : Prop := k0 1 s1 0 0
structure f38 (s1 : ByteArray) (k0 : Int → ByteArray → Int → Int → Prop) : Prop where
  run : f38_d s1 k0
noncomputable def f38_tab : List (Nat × Told) := []
noncomputable def f38_call : FuncId → List TV → List Entry → (TV → List Entry → Prop) → Prop := noCalls
noncomputable def f38_C : Ctx := { ty := tyOf tab, glob := glob, byRef := byRef, keep := fun k i => lookN [] (lookN [] ([] : List (Nat × List (Nat × List Nat))) k) i, late := lookN [] ([] : List (Nat × List Nat)), nref := lookN [] ([] : List (Nat × List Nat)), nbox := lookN [] ([] : List (Nat × List (Nat × Nat))), take := [], rnil := false, m := 0, fz := true, loops := lookL f38_tab, call := f38_call }
noncomputable def f38_G0 : List TV → List Entry → (TV → List Entry → Prop) → Prop := fun tm hp K => getS [.v (.one (.str))] [] tm hp fun (xx : (ByteArray × Unit)) (yy : Unit) => f38 xx.1 (fun n0_0 s0_1 n0_2 n0_3 => K (.w (.pagg [pI n0_0, pS s0_1, pI n0_2, pI n0_3])) [])
set_option maxRecDepth 100000 in
theorem f38_eq (s_4 : ByteArray) (K : TV → List Entry → Prop) : (f38_d s_4 (fun n0_0 s0_1 n0_2 n0_3 => K (.w (.pagg [pI n0_0, pS s0_1, pI n0_2, pI n0_3])) [])) = funcT f38_C Tryd.f38 [S s_4] [] K := by kernel_rfl
set_option maxHeartbeats 4000000 in
theorem f38_ok0 : FnOk Tryd.prog glob 38 f38_G0 := by
  refine FnOk.of_text (C := f38_C) tab_ok.ok (Known.none) follows_ok (fn := Tryd.f38) (by kernel_rfl) (by kernel_rfl) (by kernel_rfl) (fun c hc => ?_) fun tm hp K h => ?_
  · have e : c = bodyOf Tryd.f38 := Option.some.inj (hc.symm.trans (by kernel_rfl))
    subst e
    exact ⟨LoopsOk.of [] (by kernel_rfl) trivial, TailsOk.of (tab := f38_tab) rfl [] (by kernel_rfl) trivial⟩
  · unfold f38_G0 at h
    obtain ⟨xx, yy, rfl, rfl, h⟩ := getS_elim h
    have e := (f38_eq xx.1 K).trans (show _ = funcT f38_C Tryd.f38 (mkR _ xx) (mkE _ yy) K by kernel_rfl)
    rw [← e]
    exact h.run
noncomputable abbrev f38_G := f38_G0
theorem f38_G_ok : FnOk Tryd.prog glob 38 f38_G := f38_ok0
end Go.Eng.N
set_option linter.unusedVariables false
set_option maxRecDepth 100000
open Go Go.Eng Go.Proofs
namespace Go.Eng.N
/-! ### f39: plenum/notify.spell -/
noncomputable def f39_p4b0 (i7 : Nat) (n8 : Nat) (n9 : Int) (es10 : List (List PC)) (full11 : Bool) (n12 : Int) (n13 : Int) (es14 : List (List PC)) (N0 : Nat → Nat → Int → (List (List PC)) → Prop) (k0 : Nat → Nat → (List (List PC)) → Prop) : Prop := bB (decide (n13 < n12)) ((0 ≤ n13 ∧ n13 < ((es10.length : Nat) : Int)) ∧ oS (ext (List.getD es10 (Int.toNat n13) []) 0 1) fun s15 => 0 ≤ n13 ∧ bB ((IntKind.wrap .i64 (BitVec.toNat (BitVec.ofInt 64 (Int.fdiv n9 (2 ^ (min (Int.toNat n13) 64))) &&& BitVec.ofInt 64 1))) == 1) (f38 s15 (fun n16 s17 n18 n19 => (i7 + n8) = es14.length ∧ (n8 + 1) * 40 ≤ 2 ^ 46 ∧ (n8 + 1) ≤ 2 ^ 46 ∧ N0 0 (n8 + 1) (w64 (n13 + 1)) (List.drop i7 es14 ++ [[pI n16, pS s17, pI n18, pI n19]]))) (N0 i7 n8 (w64 (n13 + 1)) es14)) (k0 i7 n8 es14)
noncomputable def f39_p4 (n9 : Int) (es10 : List (List PC)) (full11 : Bool) (n12 : Int) (k0 : Nat → Nat → (List (List PC)) → Prop) : Nat × Nat × Int × (List (List PC)) → Prop := LoopP fun x N => f39_p4b0 x.1 x.2.1 n9 es10 full11 n12 x.2.2.1 x.2.2.2 (fun i7 n8 n13 es14 => N (i7, n8, n13, es14)) k0
noncomputable def f39_d (i1 : Nat) (n2 : Nat) (es3 : List (List PC)) (full4 : Bool) (n5 : Int) (es6 : List (List PC)) (k0 : Nat → Nat → (List (List PC)) → Prop) : Prop := f39_p4 n5 es3 full4 ((es3.length : Nat) : Int) (fun i20 n21 es22 => k0 i20 n21 es22) (0, n2, 0, (List.drop i1 es6))
structure f39 (i1 : Nat) (n2 : Nat) (es3 : List (List PC)) (full4 : Bool) (n5 : Int) (es6 : List (List PC)) (k0 : Nat → Nat → (List (List PC)) → Prop) : Prop where
  run : f39_d i1 n2 es3 full4 n5 es6 k0
noncomputable def f39_p4L : Told := fun s K => match s with
  | ⟨tm, hp⟩ => getS [.v (.one (.ref 1)), .skip 1, .v (.one (.int .i64)), .skip 6, .v (.one (.sl 1)), .v (.one (.int .i64)), .v (.one (.int .i64)), .skip 16] [.gone, .vec 4 true] tm hp fun (xx : ((Nat × Nat) × (Unit × (Int × (Unit × ((List (List PC) × Bool) × (Int × (Int × (Unit × Unit))))))))) (yy : (Unit × ((List (List PC)) × Unit))) => f39_p4 xx.2.2.1 xx.2.2.2.2.1.1 xx.2.2.2.2.1.2 xx.2.2.2.2.2.1 (fun i0_0 n0_1 es0_2 => K (.exit 0) ⟨mkS 28 [(0, .w (.one (.ref 1 i0_0 n0_1)))], [.gone, .vec 4 es0_2 true]⟩) (xx.1.1, xx.1.2, xx.2.2.2.2.2.2.1, yy.2.1)
noncomputable def f39_tab : List (Nat × Told) := [(4, f39_p4L)]
noncomputable def f39_call : FuncId → List TV → List Entry → (TV → List Entry → Prop) → Prop := addCall 38 f38_G (noCalls)
noncomputable def f39_C : Ctx := { ty := tyOf tab, glob := glob, byRef := byRef, keep := fun k i => lookN [] (lookN [] ([(4, [(0, [0, 2, 9, 10, 11]), (2, [6]), (3, [0])])] : List (Nat × List (Nat × List Nat))) k) i, late := lookN [] ([] : List (Nat × List Nat)), nref := lookN [] ([] : List (Nat × List Nat)), nbox := lookN [] ([] : List (Nat × List (Nat × Nat))), take := [0], rnil := true, m := 1, fz := false, loops := lookL f39_tab, call := f39_call }
noncomputable def f39_p4_mk (n9 : Int) (es10 : List (List PC)) (full11 : Bool) (n12 : Int) (x : Nat × Nat × Int × (List (List PC))) : St := ⟨mkS 28 [(0, .w (.one (.ref 1 x.1 x.2.1))), (2, I n9), (9, .w (.one (.p (.sl 1 es10 full11)))), (10, I n12), (11, I x.2.2.1)], [.gone, .vec 4 x.2.2.2 true]⟩
set_option maxRecDepth 100000 in
theorem f39_p4e0 (i_11 : Nat) (n_12 : Nat) (n_13 : Int) (es_14 : List (List PC)) (full_15 : Bool) (n_16 : Int) (n_17 : Int) (es_18 : List (List PC)) (N : St → Prop) (K : TExit → St → Prop) : (f39_p4b0 i_11 n_12 n_13 es_14 full_15 n_16 n_17 es_18 (fun z0 z1 z6 z7 => N (f39_p4_mk n_13 es_14 full_15 n_16 (z0, z1, z6, z7))) (fun i0_19 n0_20 es0_21 => K (.exit 0) ⟨mkS 28 [(0, .w (.one (.ref 1 i0_19 n0_20)))], [.gone, .vec 4 es0_21 true]⟩)) = execT f39_C (nthC (bodies (bodyOf Tryd.f39)) 0) (f39_p4_mk n_13 es_14 full_15 n_16 (i_11, n_12, n_17, es_18)) (loopK N (normK f39_C 4) fun e s => K e (normOut f39_C 4 e s)) := by kernel_rfl
set_option maxHeartbeats 4000000 in
theorem f39_p4_ok : LoopOk f39_C (nthC (bodies (bodyOf Tryd.f39)) 0) := by
  refine LoopOk.of f39_p4L (by kernel_rfl) fun σ K h => ?_
  have hk : loopKey (nthC (bodies (bodyOf Tryd.f39)) 0) = 4 := by kernel_rfl
  rw [hk] at h ⊢
  generalize hs : normK f39_C 4 σ = s at h
  obtain ⟨tm, hp⟩ := s
  unfold f39_p4L at h
  dsimp only at h
  obtain ⟨xx, yy, rfl, rfl, h⟩ := getS_elim h
  refine iter_of (f39_p4_mk xx.2.2.1 xx.2.2.2.2.1.1 xx.2.2.2.2.1.2 xx.2.2.2.2.2.1) (fun x N h => ?_) rounds _ σ (hs.trans (by kernel_rfl)) (LoopP.run h)
  obtain ⟨y0, y1, y2, y3⟩ := x
  rw [← f39_p4e0 y0 y1 xx.2.2.1 xx.2.2.2.2.1.1 xx.2.2.2.2.1.2 xx.2.2.2.2.2.1 y2 y3 N K]
  exact h
noncomputable def f39_G0 : List TV → List Entry → (TV → List Entry → Prop) → Prop := fun tm hp K => getS [.v (.one (.ref 0)), .v (.one (.sl 1)), .v (.one (.int .i64))] [.vec 4 true] tm hp fun (xx : ((Nat × Nat) × ((List (List PC) × Bool) × (Int × Unit)))) (yy : ((List (List PC)) × Unit)) => f39 xx.1.1 xx.1.2 xx.2.1.1 xx.2.1.2 xx.2.2.1 yy.1 (fun i0_22 n0_23 es0_24 => K (.w (.one (.ref 1 i0_22 n0_23))) [.gone, .vec 4 es0_24 true])
set_option maxRecDepth 100000 in
theorem f39_eq (i_25 : Nat) (n_26 : Nat) (es_27 : List (List PC)) (full_28 : Bool) (n_29 : Int) (es_30 : List (List PC)) (K : TV → List Entry → Prop) : (f39_d i_25 n_26 es_27 full_28 n_29 es_30 (fun i0_22 n0_23 es0_24 => K (.w (.one (.ref 1 i0_22 n0_23))) [.gone, .vec 4 es0_24 true])) = funcT f39_C Tryd.f39 [.w (.one (.ref 0 i_25 n_26)), .w (.one (.p (.sl 1 es_27 full_28))), I n_29] [.vec 4 es_30 true] K := by kernel_rfl
set_option maxHeartbeats 4000000 in
theorem f39_ok0 : FnOk Tryd.prog glob 39 f39_G0 := by
  refine FnOk.of_text (C := f39_C) tab_ok.ok (Known.add f38_G_ok (Known.none)) follows_ok (fn := Tryd.f39) (by kernel_rfl) (by kernel_rfl) (by kernel_rfl) (fun c hc => ?_) fun tm hp K h => ?_
  · have e : c = bodyOf Tryd.f39 := Option.some.inj (hc.symm.trans (by kernel_rfl))
    subst e
    exact ⟨LoopsOk.of [nthC (bodies (bodyOf Tryd.f39)) 0] (by kernel_rfl) ⟨f39_p4_ok, trivial⟩, TailsOk.of (tab := f39_tab) rfl [] (by kernel_rfl) trivial⟩
  · unfold f39_G0 at h
    obtain ⟨xx, yy, rfl, rfl, h⟩ := getS_elim h
    have e := (f39_eq xx.1.1 xx.1.2 xx.2.1.1 xx.2.1.2 xx.2.2.1 yy.1 K).trans (show _ = funcT f39_C Tryd.f39 (mkR _ xx) (mkE _ yy) K by kernel_rfl)
    rw [← e]
    exact h.run
noncomputable abbrev f39_G := f39_G0
theorem f39_G_ok : FnOk Tryd.prog glob 39 f39_G := f39_ok0
end Go.Eng.N
set_option linter.unusedVariables false
set_option maxRecDepth 100000
open Go Go.Eng Go.Proofs
namespace Go.Eng.N
/-! ### f14: plenum/notify.Line -/
noncomputable def f14_p18b0 (es38 : List (List PC)) (full39 : Bool) (n40 : Int) (n41 : Int) (b42 : Bool) (n43 : Int) (i44 : Nat) (n45 : Nat) (b46 : Bool) (i47 : Nat) (n48 : Nat) (n49 : Int) (es50 : List (List PC)) (es51 : List (List PC)) (N0 : Int → Nat → Nat → (List (List PC)) → Prop) (k0 : Nat → Nat → (List (List PC)) → Prop) : Prop := bB (decide (n41 < n40)) ((0 ≤ n41 ∧ n41 < ((es38.length : Nat) : Int)) ∧ cS (ext (List.getD es38 (Int.toNat n41) []) 0 5) fun s53 r52 => cI .i64 r52 fun n55 r54 => cI .i64 r54 fun n57 r56 => cI .i64 r56 fun n59 r58 => cI .i64 r58 fun n61 r60 => nilC r60 <| f38 (⟨#[114, 101, 99, 105, 112, 105, 101, 110, 116]⟩ : ByteArray) (fun n62 s63 n64 n65 => f38 s53 (fun n66 s67 n68 n69 => f38 (⟨#[100, 97, 121, 115]⟩ : ByteArray) (fun n70 s71 n72 n73 => f39 0 3 [[pS (⟨#[109, 111, 110]⟩ : ByteArray)], [pS (⟨#[116, 117, 101]⟩ : ByteArray)], [pS (⟨#[119, 101, 100]⟩ : ByteArray)], [pS (⟨#[116, 104, 117]⟩ : ByteArray)], [pS (⟨#[102, 114, 105]⟩ : ByteArray)], [pS (⟨#[115, 97, 116]⟩ : ByteArray)], [pS (⟨#[115, 117, 110]⟩ : ByteArray)]] false n55 [[pI n62, pS s63, pI n64, pI n65], [pI n66, pS s67, pI n68, pI n69], [pI n70, pS s71, pI n72, pI n73]] (fun i74 n75 es76 => f38 (⟨#[102, 114, 111, 109]⟩ : ByteArray) (fun n77 s78 n79 n80 => f37 n57 (fun n81 s82 n83 n84 => f38 (⟨#[116, 111]⟩ : ByteArray) (fun n85 s86 n87 n88 => f37 n59 (fun n89 s90 n91 n92 => f38 (⟨#[102, 111, 114]⟩ : ByteArray) (fun n93 s94 n95 n96 => (i74 + n75) = es76.length ∧ (n75 + 5) * 40 ≤ 2 ^ 46 ∧ (n75 + 5) ≤ 2 ^ 46 ∧ f39 0 (n75 + 5) [[pS (⟨#[97, 108, 97, 114, 109]⟩ : ByteArray)], [pS (⟨#[102, 97, 117, 108, 116]⟩ : ByteArray)], [pS (⟨#[110, 111, 114, 109, 97, 108]⟩ : ByteArray)]] false n61 (List.drop i74 es76 ++ [[pI n77, pS s78, pI n79, pI n80], [pI n81, pS s82, pI n83, pI n84], [pI n85, pS s86, pI n87, pI n88], [pI n89, pS s90, pI n91, pI n92], [pI n93, pS s94, pI n95, pI n96]]) (fun i97 n98 es99 => (i47 + n48) = es51.length ∧ (n48 + 1) * 64 ≤ 2 ^ 46 ∧ (n48 + 1) ≤ 2 ^ 46 ∧ N0 (w64 (n41 + 1)) 0 (n48 + 1) (List.drop i47 es51 ++ [[.sl 4 (List.take n98 (List.drop i97 es99)) false, pB false, .sl 4 [] true, pI 0]])))))))))))) (k0 i47 n48 es51)
noncomputable def f14_p18 (es38 : List (List PC)) (full39 : Bool) (n40 : Int) (b42 : Bool) (n43 : Int) (i44 : Nat) (n45 : Nat) (b46 : Bool) (n49 : Int) (es50 : List (List PC)) (k0 : Nat → Nat → (List (List PC)) → Prop) : Int × Nat × Nat × (List (List PC)) → Prop := LoopP fun x N => f14_p18b0 es38 full39 n40 x.1 b42 n43 i44 n45 b46 x.2.1 x.2.2.1 n49 es50 x.2.2.2 (fun n41 i47 n48 es51 => N (n41, i47, n48, es51)) k0
noncomputable def f14_p17 (s26 : ByteArray) (n27 : Int) (n28 : Int) (es29 : List (List PC)) (full30 : Bool) (b31 : Bool) (n32 : Int) (i33 : Nat) (n34 : Nat) (b35 : Bool) (n36 : Int) (es37 : List (List PC)) (k0 : Int → Nat → Nat → (List (List PC)) → Prop) : Prop := f14_p18 es29 full30 ((es29.length : Nat) : Int) b31 n32 i33 n34 b35 n36 es37 (fun i100 n101 es102 => k0 0 i100 n101 es102) (0, 0, 0, [])
noncomputable def f14_d (s1 : ByteArray) (n2 : Int) (n3 : Int) (es4 : List (List PC)) (full5 : Bool) (k0 : (List (List PC)) → Bool → Bool → (List (List PC)) → Bool → Int → Int → Prop) : Prop := f16 s1 n2 n3 es4 full5 (fun n6 => bB (n6 != 0) (k0 [] true false [] true 0 n6) ((f38 (⟨#[99, 108, 97, 115, 115]⟩ : ByteArray) (fun n7 s8 n9 n10 => (f38 s1 (fun n11 s12 n13 n14 => (f38 (⟨#[112, 114, 105, 111, 114, 105, 116, 121]⟩ : ByteArray) (fun n15 s16 n17 n18 => (bB (n3 != 0) (f38 (⟨#[97, 99, 107]⟩ : ByteArray) (fun n19 s20 n21 n22 => 4 = 4 ∧ 5 * 40 ≤ 2 ^ 46 ∧ 5 ≤ 2 ^ 46 ∧ f39 0 5 [[pS (⟨#[97, 108, 97, 114, 109]⟩ : ByteArray)], [pS (⟨#[102, 97, 117, 108, 116]⟩ : ByteArray)], [pS (⟨#[110, 111, 114, 109, 97, 108]⟩ : ByteArray)]] false n3 [[pI n7, pS s8, pI n9, pI n10], [pI n11, pS s12, pI n13, pI n14], [pI n15, pS s16, pI n17, pI n18], [pI 2, pS (⟨#[]⟩ : ByteArray), pI (w64 (1000 * n2)), pI 0], [pI n19, pS s20, pI n21, pI n22]] (fun i23 n24 es25 => f14_p17 s1 n2 n3 es4 full5 false 0 i23 n24 (decide (((es4.length : Nat) : Int) > 0)) 0 es25 (fun n103 i104 n105 es106 => k0 (List.take n24 (List.drop i23 es25)) false (decide (((es4.length : Nat) : Int) > 0)) (List.take n105 (List.drop i104 es106)) false 0 n103)))) (f14_p17 s1 n2 n3 es4 full5 false 0 0 4 (decide (((es4.length : Nat) : Int) > 0)) 0 [[pI n7, pS s8, pI n9, pI n10], [pI n11, pS s12, pI n13, pI n14], [pI n15, pS s16, pI n17, pI n18], [pI 2, pS (⟨#[]⟩ : ByteArray), pI (w64 (1000 * n2)), pI 0]] (fun n107 i108 n109 es110 => k0 (List.take 4 (List.drop 0 [[pI n7, pS s8, pI n9, pI n10], [pI n11, pS s12, pI n13, pI n14], [pI n15, pS s16, pI n17, pI n18], [pI 2, pS (⟨#[]⟩ : ByteArray), pI (w64 (1000 * n2)), pI 0]])) false (decide (((es4.length : Nat) : Int) > 0)) (List.take n109 (List.drop i108 es110)) false 0 n107))) ∧ (bB (n3 != 0) (f38 (⟨#[97, 99, 107]⟩ : ByteArray) (fun n111 s112 n113 n114 => 4 = 4 ∧ 5 * 40 ≤ 2 ^ 46 ∧ 5 ≤ 2 ^ 46 ∧ f39 0 5 [[pS (⟨#[97, 108, 97, 114, 109]⟩ : ByteArray)], [pS (⟨#[102, 97, 117, 108, 116]⟩ : ByteArray)], [pS (⟨#[110, 111, 114, 109, 97, 108]⟩ : ByteArray)]] false n3 [[pI n7, pS s8, pI n9, pI n10], [pI n11, pS s12, pI n13, pI n14], [pI n15, pS s16, pI n17, pI n18], [pI 2, pS (⟨#[]⟩ : ByteArray), pI (w64 (1000 * n2)), pI 0], [pI n111, pS s112, pI n113, pI n114]] (fun i115 n116 es117 => f14_p17 s1 n2 n3 es4 full5 false 0 i115 n116 (decide (((es4.length : Nat) : Int) > 0)) 0 es117 (fun n118 i119 n120 es121 => k0 (List.take n116 (List.drop i115 es117)) false (decide (((es4.length : Nat) : Int) > 0)) (List.take n120 (List.drop i119 es121)) false 0 n118)))) (f14_p17 s1 n2 n3 es4 full5 false 0 0 4 (decide (((es4.length : Nat) : Int) > 0)) 0 [[pI n7, pS s8, pI n9, pI n10], [pI n11, pS s12, pI n13, pI n14], [pI n15, pS s16, pI n17, pI n18], [pI 2, pS (⟨#[]⟩ : ByteArray), pI (w64 (1000 * n2)), pI 0]] (fun n122 i123 n124 es125 => k0 (List.take 4 (List.drop 0 [[pI n7, pS s8, pI n9, pI n10], [pI n11, pS s12, pI n13, pI n14], [pI n15, pS s16, pI n17, pI n18], [pI 2, pS (⟨#[]⟩ : ByteArray), pI (w64 (1000 * n2)), pI 0]])) false (decide (((es4.length : Nat) : Int) > 0)) (List.take n124 (List.drop i123 es125)) false 0 n122))))) ∧ (f38 (⟨#[112, 114, 105, 111, 114, 105, 116, 121]⟩ : ByteArray) (fun n126 s127 n128 n129 => bB (n3 != 0) (f38 (⟨#[97, 99, 107]⟩ : ByteArray) (fun n130 s131 n132 n133 => 4 = 4 ∧ 5 * 40 ≤ 2 ^ 46 ∧ 5 ≤ 2 ^ 46 ∧ f39 0 5 [[pS (⟨#[97, 108, 97, 114, 109]⟩ : ByteArray)], [pS (⟨#[102, 97, 117, 108, 116]⟩ : ByteArray)], [pS (⟨#[110, 111, 114, 109, 97, 108]⟩ : ByteArray)]] false n3 [[pI n7, pS s8, pI n9, pI n10], [pI n11, pS s12, pI n13, pI n14], [pI n126, pS s127, pI n128, pI n129], [pI 2, pS (⟨#[]⟩ : ByteArray), pI (w64 (1000 * n2)), pI 0], [pI n130, pS s131, pI n132, pI n133]] (fun i134 n135 es136 => f14_p17 s1 n2 n3 es4 full5 false 0 i134 n135 (decide (((es4.length : Nat) : Int) > 0)) 0 es136 (fun n137 i138 n139 es140 => k0 (List.take n135 (List.drop i134 es136)) false (decide (((es4.length : Nat) : Int) > 0)) (List.take n139 (List.drop i138 es140)) false 0 n137)))) (f14_p17 s1 n2 n3 es4 full5 false 0 0 4 (decide (((es4.length : Nat) : Int) > 0)) 0 [[pI n7, pS s8, pI n9, pI n10], [pI n11, pS s12, pI n13, pI n14], [pI n126, pS s127, pI n128, pI n129], [pI 2, pS (⟨#[]⟩ : ByteArray), pI (w64 (1000 * n2)), pI 0]] (fun n141 i142 n143 es144 => k0 (List.take 4 (List.drop 0 [[pI n7, pS s8, pI n9, pI n10], [pI n11, pS s12, pI n13, pI n14], [pI n126, pS s127, pI n128, pI n129], [pI 2, pS (⟨#[]⟩ : ByteArray), pI (w64 (1000 * n2)), pI 0]])) false (decide (((es4.length : Nat) : Int) > 0)) (List.take n143 (List.drop i142 es144)) false 0 n141)))))) ∧ (f38 s1 (fun n145 s146 n147 n148 => f38 (⟨#[112, 114, 105, 111, 114, 105, 116, 121]⟩ : ByteArray) (fun n149 s150 n151 n152 => bB (n3 != 0) (f38 (⟨#[97, 99, 107]⟩ : ByteArray) (fun n153 s154 n155 n156 => 4 = 4 ∧ 5 * 40 ≤ 2 ^ 46 ∧ 5 ≤ 2 ^ 46 ∧ f39 0 5 [[pS (⟨#[97, 108, 97, 114, 109]⟩ : ByteArray)], [pS (⟨#[102, 97, 117, 108, 116]⟩ : ByteArray)], [pS (⟨#[110, 111, 114, 109, 97, 108]⟩ : ByteArray)]] false n3 [[pI n7, pS s8, pI n9, pI n10], [pI n145, pS s146, pI n147, pI n148], [pI n149, pS s150, pI n151, pI n152], [pI 2, pS (⟨#[]⟩ : ByteArray), pI (w64 (1000 * n2)), pI 0], [pI n153, pS s154, pI n155, pI n156]] (fun i157 n158 es159 => f14_p17 s1 n2 n3 es4 full5 false 0 i157 n158 (decide (((es4.length : Nat) : Int) > 0)) 0 es159 (fun n160 i161 n162 es163 => k0 (List.take n158 (List.drop i157 es159)) false (decide (((es4.length : Nat) : Int) > 0)) (List.take n162 (List.drop i161 es163)) false 0 n160)))) (f14_p17 s1 n2 n3 es4 full5 false 0 0 4 (decide (((es4.length : Nat) : Int) > 0)) 0 [[pI n7, pS s8, pI n9, pI n10], [pI n145, pS s146, pI n147, pI n148], [pI n149, pS s150, pI n151, pI n152], [pI 2, pS (⟨#[]⟩ : ByteArray), pI (w64 (1000 * n2)), pI 0]] (fun n164 i165 n166 es167 => k0 (List.take 4 (List.drop 0 [[pI n7, pS s8, pI n9, pI n10], [pI n145, pS s146, pI n147, pI n148], [pI n149, pS s150, pI n151, pI n152], [pI 2, pS (⟨#[]⟩ : ByteArray), pI (w64 (1000 * n2)), pI 0]])) false (decide (((es4.length : Nat) : Int) > 0)) (List.take n166 (List.drop i165 es167)) false 0 n164))))))) ∧ (f38 (⟨#[99, 108, 97, 115, 115]⟩ : ByteArray) (fun n168 s169 n170 n171 => f38 s1 (fun n172 s173 n174 n175 => f38 (⟨#[112, 114, 105, 111, 114, 105, 116, 121]⟩ : ByteArray) (fun n176 s177 n178 n179 => bB (n3 != 0) (f38 (⟨#[97, 99, 107]⟩ : ByteArray) (fun n180 s181 n182 n183 => 4 = 4 ∧ 5 * 40 ≤ 2 ^ 46 ∧ 5 ≤ 2 ^ 46 ∧ f39 0 5 [[pS (⟨#[97, 108, 97, 114, 109]⟩ : ByteArray)], [pS (⟨#[102, 97, 117, 108, 116]⟩ : ByteArray)], [pS (⟨#[110, 111, 114, 109, 97, 108]⟩ : ByteArray)]] false n3 [[pI n168, pS s169, pI n170, pI n171], [pI n172, pS s173, pI n174, pI n175], [pI n176, pS s177, pI n178, pI n179], [pI 2, pS (⟨#[]⟩ : ByteArray), pI (w64 (1000 * n2)), pI 0], [pI n180, pS s181, pI n182, pI n183]] (fun i184 n185 es186 => f14_p17 s1 n2 n3 es4 full5 false 0 i184 n185 (decide (((es4.length : Nat) : Int) > 0)) 0 es186 (fun n187 i188 n189 es190 => k0 (List.take n185 (List.drop i184 es186)) false (decide (((es4.length : Nat) : Int) > 0)) (List.take n189 (List.drop i188 es190)) false 0 n187)))) (f14_p17 s1 n2 n3 es4 full5 false 0 0 4 (decide (((es4.length : Nat) : Int) > 0)) 0 [[pI n168, pS s169, pI n170, pI n171], [pI n172, pS s173, pI n174, pI n175], [pI n176, pS s177, pI n178, pI n179], [pI 2, pS (⟨#[]⟩ : ByteArray), pI (w64 (1000 * n2)), pI 0]] (fun n191 i192 n193 es194 => k0 (List.take 4 (List.drop 0 [[pI n168, pS s169, pI n170, pI n171], [pI n172, pS s173, pI n174, pI n175], [pI n176, pS s177, pI n178, pI n179], [pI 2, pS (⟨#[]⟩ : ByteArray), pI (w64 (1000 * n2)), pI 0]])) false (decide (((es4.length : Nat) : Int) > 0)) (List.take n193 (List.drop i192 es194)) false 0 n191))))))))
structure f14 (s1 : ByteArray) (n2 : Int) (n3 : Int) (es4 : List (List PC)) (full5 : Bool) (k0 : (List (List PC)) → Bool → Bool → (List (List PC)) → Bool → Int → Int → Prop) : Prop where
  run : f14_d s1 n2 n3 es4 full5 k0
noncomputable def f14_p18L : Told := fun s K => match s with
  | ⟨tm, hp⟩ => getS [.skip 2, .v (.one (.ptr 0 0 0)), .skip 2, .v (.one (.fn 37)), .v (.one (.ptr 1 0 0)), .skip 38, .v (.one (.sl 5)), .v (.one (.int .i64)), .v (.one (.int .i64)), .skip 40] [.box [.nil 4, .bool, .nil 4, .int .i64], .box [.ref 2, .bool, .ref 3, .int .i64], .vec 4 true, .vec 4 true] tm hp fun (xx : (Unit × (Unit × (Unit × (Unit × (Unit × (Unit × ((List (List PC) × Bool) × (Int × (Int × (Unit × Unit))))))))))) (yy : ((Unit × (Bool × (Unit × (Int × Unit)))) × (((Nat × Nat) × (Bool × ((Nat × Nat) × (Int × Unit)))) × ((List (List PC)) × ((List (List PC)) × Unit))))) => f14_p18 xx.2.2.2.2.2.2.1.1 xx.2.2.2.2.2.2.1.2 xx.2.2.2.2.2.2.2.1 yy.1.2.1 yy.1.2.2.2.1 yy.2.1.1.1 yy.2.1.1.2 yy.2.1.2.1 yy.2.1.2.2.2.1 yy.2.2.1 (fun i0_0 n0_1 es0_2 => K (.exit 0) ⟨mkS 88 [(2, .w (.one (.ptr 0 0 0))), (6, .w (.one (.ptr 1 0 0)))], [.box [.p (.sl 4 [] true), .p (pB yy.1.2.1), .p (.sl 4 [] true), .p (pI yy.1.2.2.2.1)], .box [.ref 2 yy.2.1.1.1 yy.2.1.1.2, .p (pB yy.2.1.2.1), .ref 3 i0_0 n0_1, .p (pI yy.2.1.2.2.2.1)], .vec 4 yy.2.2.1 true, .vec 4 es0_2 true]⟩) (xx.2.2.2.2.2.2.2.2.1, yy.2.1.2.2.1.1, yy.2.1.2.2.1.2, yy.2.2.2.1)
noncomputable def f14_p17L : Told := fun s K => match s with
  | ⟨tm, hp⟩ => getS [.skip 1, .v (.one (.ptr 0 0 0)), .v (.one (.ptr 1 0 0)), .skip 2, .v (.one (.fn 37)), .v (.one (.ptr 2 0 0)), .skip 81] [.box [.str, .int .i64, .int .i64, .sl 5], .box [.nil 4, .bool, .nil 4, .int .i64], .box [.ref 3, .bool, .nil 4, .int .i64], .vec 4 true] tm hp fun (xx : (Unit × (Unit × (Unit × (Unit × (Unit × (Unit × (Unit × Unit)))))))) (yy : ((ByteArray × (Int × (Int × ((List (List PC) × Bool) × Unit)))) × ((Unit × (Bool × (Unit × (Int × Unit)))) × (((Nat × Nat) × (Bool × (Unit × (Int × Unit)))) × ((List (List PC)) × Unit))))) => f14_p17 yy.1.1 yy.1.2.1 yy.1.2.2.1 yy.1.2.2.2.1.1 yy.1.2.2.2.1.2 yy.2.1.2.1 yy.2.1.2.2.2.1 yy.2.2.1.1.1 yy.2.2.1.1.2 yy.2.2.1.2.1 yy.2.2.1.2.2.2.1 yy.2.2.2.1 (fun n0_3 i0_4 n0_5 es0_6 => K .ret ⟨mkS 88 [(2, .w (.one (.ptr 0 0 0))), (3, I n0_3)], [.box [.ref 1 yy.2.2.1.1.1 yy.2.2.1.1.2, .p (pB yy.2.2.1.2.1), .ref 2 i0_4 n0_5, .p (pI yy.2.2.1.2.2.2.1)], .vec 4 yy.2.2.2.1 true, .vec 4 es0_6 true]⟩)
noncomputable def f14_tab : List (Nat × Told) := [(18, f14_p18L), (17, f14_p17L)]
noncomputable def f14_call : FuncId → List TV → List Entry → (TV → List Entry → Prop) → Prop := addCall 39 f39_G (addCall 38 f38_G (addCall 37 f37_G (addCall 16 f16_G (noCalls))))
noncomputable def f14_C : Ctx := { ty := tyOf tab, glob := glob, byRef := byRef, keep := fun k i => lookN [] (lookN [] ([(18, [(0, [2, 5, 6, 45, 46, 47]), (2, [2, 3]), (3, [2, 6])]), (17, [(0, [1, 2, 5, 6]), (1, [2, 3]), (2, [2, 3])])] : List (Nat × List (Nat × List Nat))) k) i, late := lookN [] ([] : List (Nat × List Nat)), nref := lookN [] ([] : List (Nat × List Nat)), nbox := lookN [] ([(18, [(1, 2)])] : List (Nat × List (Nat × Nat))), take := [], rnil := false, m := 0, fz := true, loops := lookL f14_tab, call := f14_call }
noncomputable def f14_p18_mk (es38 : List (List PC)) (full39 : Bool) (n40 : Int) (b42 : Bool) (n43 : Int) (i44 : Nat) (n45 : Nat) (b46 : Bool) (n49 : Int) (es50 : List (List PC)) (x : Int × Nat × Nat × (List (List PC))) : St := ⟨mkS 88 [(2, .w (.one (.ptr 0 0 0))), (5, .w (.one (.p (.c (.func (.func 37) #[] #[]))))), (6, .w (.one (.ptr 1 0 0))), (45, .w (.one (.p (.sl 5 es38 full39)))), (46, I n40), (47, I x.1)], [.box [.p (.sl 4 [] true), .p (pB b42), .p (.sl 4 [] true), .p (pI n43)], .box [.ref 2 i44 n45, .p (pB b46), .ref 3 x.2.1 x.2.2.1, .p (pI n49)], .vec 4 es50 true, .vec 4 x.2.2.2 true]⟩
set_option maxRecDepth 100000 in
theorem f14_p18e0 (es_21 : List (List PC)) (full_22 : Bool) (n_23 : Int) (n_24 : Int) (b_25 : Bool) (n_26 : Int) (i_27 : Nat) (n_28 : Nat) (b_29 : Bool) (i_30 : Nat) (n_31 : Nat) (n_32 : Int) (es_33 : List (List PC)) (es_34 : List (List PC)) (N : St → Prop) (K : TExit → St → Prop) : (f14_p18b0 es_21 full_22 n_23 n_24 b_25 n_26 i_27 n_28 b_29 i_30 n_31 n_32 es_33 es_34 (fun z3 z9 z10 z13 => N (f14_p18_mk es_21 full_22 n_23 b_25 n_26 i_27 n_28 b_29 n_32 es_33 (z3, z9, z10, z13))) (fun i0_35 n0_36 es0_37 => K (.exit 0) ⟨mkS 88 [(2, .w (.one (.ptr 0 0 0))), (6, .w (.one (.ptr 1 0 0)))], [.box [.p (.sl 4 [] true), .p (pB b_25), .p (.sl 4 [] true), .p (pI n_26)], .box [.ref 2 i_27 n_28, .p (pB b_29), .ref 3 i0_35 n0_36, .p (pI n_32)], .vec 4 es_33 true, .vec 4 es0_37 true]⟩)) = execT f14_C (nthC (bodies (bodyOf Tryd.f14)) 0) (f14_p18_mk es_21 full_22 n_23 b_25 n_26 i_27 n_28 b_29 n_32 es_33 (n_24, i_30, n_31, es_34)) (loopK N (normK f14_C 18) fun e s => K e (normOut f14_C 18 e s)) := by kernel_rfl
set_option maxRecDepth 100000 in
theorem f14_p17e0 (s_38 : ByteArray) (n_39 : Int) (n_40 : Int) (es_41 : List (List PC)) (full_42 : Bool) (b_43 : Bool) (n_44 : Int) (i_45 : Nat) (n_46 : Nat) (b_47 : Bool) (n_48 : Int) (es_49 : List (List PC)) (K : TExit → St → Prop) : (f14_p17 s_38 n_39 n_40 es_41 full_42 b_43 n_44 i_45 n_46 b_47 n_48 es_49 (fun n0_50 i0_51 n0_52 es0_53 => K .ret ⟨mkS 88 [(2, .w (.one (.ptr 0 0 0))), (3, I n0_50)], [.box [.ref 1 i_45 n_46, .p (pB b_47), .ref 2 i0_51 n0_52, .p (pI n_48)], .vec 4 es_49 true, .vec 4 es0_53 true]⟩)) = execT f14_C (nthC (tails (bodyOf Tryd.f14)) 7) ⟨mkS 88 [(1, .w (.one (.ptr 0 0 0))), (2, .w (.one (.ptr 1 0 0))), (5, .w (.one (.p (.c (.func (.func 37) #[] #[]))))), (6, .w (.one (.ptr 2 0 0)))], [.box [.p (pS s_38), .p (pI n_39), .p (pI n_40), .p (.sl 5 es_41 full_42)], .box [.p (.sl 4 [] true), .p (pB b_43), .p (.sl 4 [] true), .p (pI n_44)], .box [.ref 3 i_45 n_46, .p (pB b_47), .p (.sl 4 [] true), .p (pI n_48)], .vec 4 es_49 true]⟩ (fun e s => K e (normOut f14_C 17 e s)) := by kernel_rfl
set_option maxHeartbeats 4000000 in
theorem f14_p18_ok : LoopOk f14_C (nthC (bodies (bodyOf Tryd.f14)) 0) := by
  refine LoopOk.of f14_p18L (by kernel_rfl) fun σ K h => ?_
  have hk : loopKey (nthC (bodies (bodyOf Tryd.f14)) 0) = 18 := by kernel_rfl
  rw [hk] at h ⊢
  generalize hs : normK f14_C 18 σ = s at h
  obtain ⟨tm, hp⟩ := s
  unfold f14_p18L at h
  dsimp only at h
  obtain ⟨xx, yy, rfl, rfl, h⟩ := getS_elim h
  refine iter_of (f14_p18_mk xx.2.2.2.2.2.2.1.1 xx.2.2.2.2.2.2.1.2 xx.2.2.2.2.2.2.2.1 yy.1.2.1 yy.1.2.2.2.1 yy.2.1.1.1 yy.2.1.1.2 yy.2.1.2.1 yy.2.1.2.2.2.1 yy.2.2.1) (fun x N h => ?_) rounds _ σ (hs.trans (by kernel_rfl)) (LoopP.run h)
  obtain ⟨y0, y1, y2, y3⟩ := x
  rw [← f14_p18e0 xx.2.2.2.2.2.2.1.1 xx.2.2.2.2.2.2.1.2 xx.2.2.2.2.2.2.2.1 y0 yy.1.2.1 yy.1.2.2.2.1 yy.2.1.1.1 yy.2.1.1.2 yy.2.1.2.1 y1 y2 yy.2.1.2.2.2.1 yy.2.2.1 y3 N K]
  exact h
set_option maxHeartbeats 4000000 in
theorem f14_p17_ok : TailOk f14_C (nthC (tails (bodyOf Tryd.f14)) 7) := by
  refine TailOk.of f14_p17L (by kernel_rfl) fun σ K h => ?_
  have hk : joinKey (nthC (tails (bodyOf Tryd.f14)) 7) = 17 := by kernel_rfl
  rw [hk] at h ⊢
  generalize hs : normK f14_C 17 σ = s at h
  obtain ⟨tm, hp⟩ := s
  unfold f14_p17L at h
  dsimp only at h
  obtain ⟨xx, yy, rfl, rfl, h⟩ := getS_elim h
  have q : normK f14_C 17 σ = (⟨mkS 88 [(1, .w (.one (.ptr 0 0 0))), (2, .w (.one (.ptr 1 0 0))), (5, .w (.one (.p (.c (.func (.func 37) #[] #[]))))), (6, .w (.one (.ptr 2 0 0)))], [.box [.p (pS yy.1.1), .p (pI yy.1.2.1), .p (pI yy.1.2.2.1), .p (.sl 5 yy.1.2.2.2.1.1 yy.1.2.2.2.1.2)], .box [.p (.sl 4 [] true), .p (pB yy.2.1.2.1), .p (.sl 4 [] true), .p (pI yy.2.1.2.2.2.1)], .box [.ref 3 yy.2.2.1.1.1 yy.2.2.1.1.2, .p (pB yy.2.2.1.2.1), .p (.sl 4 [] true), .p (pI yy.2.2.1.2.2.2.1)], .vec 4 yy.2.2.2.1 true]⟩ : St) := hs.trans (by kernel_rfl)
  rw [← hs, q, ← f14_p17e0 yy.1.1 yy.1.2.1 yy.1.2.2.1 yy.1.2.2.2.1.1 yy.1.2.2.2.1.2 yy.2.1.2.1 yy.2.1.2.2.2.1 yy.2.2.1.1.1 yy.2.2.1.1.2 yy.2.2.1.2.1 yy.2.2.1.2.2.2.1 yy.2.2.2.1 K]
  exact h
noncomputable def f14_G0 : List TV → List Entry → (TV → List Entry → Prop) → Prop := fun tm hp K => getS [.v (.pagg [.str, .int .i64, .int .i64, .sl 5])] [] tm hp fun (xx : ((ByteArray × (Int × (Int × ((List (List PC) × Bool) × Unit)))) × Unit)) (yy : Unit) => f14 xx.1.1 xx.1.2.1 xx.1.2.2.1 xx.1.2.2.2.1.1 xx.1.2.2.2.1.2 (fun es0_54 full0_55 b0_56 es0_57 full0_58 n0_59 n0_60 => K (.tup [.pagg [.sl 4 es0_54 full0_55, pB b0_56, .sl 4 es0_57 full0_58, pI n0_59], .one (.p (pI n0_60))]) [])
set_option maxRecDepth 100000 in
theorem f14_eq (s_61 : ByteArray) (n_62 : Int) (n_63 : Int) (es_64 : List (List PC)) (full_65 : Bool) (K : TV → List Entry → Prop) : (f14_d s_61 n_62 n_63 es_64 full_65 (fun es0_54 full0_55 b0_56 es0_57 full0_58 n0_59 n0_60 => K (.tup [.pagg [.sl 4 es0_54 full0_55, pB b0_56, .sl 4 es0_57 full0_58, pI n0_59], .one (.p (pI n0_60))]) [])) = funcT f14_C Tryd.f14 [.w (.pagg [pS s_61, pI n_62, pI n_63, .sl 5 es_64 full_65])] [] K := by kernel_rfl
set_option maxHeartbeats 4000000 in
theorem f14_ok0 : FnOk Tryd.prog glob 14 f14_G0 := by
  refine FnOk.of_text (C := f14_C) tab_ok.ok (Known.add f39_G_ok (Known.add f38_G_ok (Known.add f37_G_ok (Known.add f16_G_ok (Known.none))))) follows_ok (fn := Tryd.f14) (by kernel_rfl) (by kernel_rfl) (by kernel_rfl) (fun c hc => ?_) fun tm hp K h => ?_
  · have e : c = bodyOf Tryd.f14 := Option.some.inj (hc.symm.trans (by kernel_rfl))
    subst e
    exact ⟨LoopsOk.of [nthC (bodies (bodyOf Tryd.f14)) 0] (by kernel_rfl) ⟨f14_p18_ok, trivial⟩, TailsOk.of (tab := f14_tab) rfl [nthC (tails (bodyOf Tryd.f14)) 7] (by kernel_rfl) ⟨f14_p17_ok, trivial⟩⟩
  · unfold f14_G0 at h
    obtain ⟨xx, yy, rfl, rfl, h⟩ := getS_elim h
    have e := (f14_eq xx.1.1 xx.1.2.1 xx.1.2.2.1 xx.1.2.2.2.1.1 xx.1.2.2.2.1.2 K).trans (show _ = funcT f14_C Tryd.f14 (mkR _ xx) (mkE _ yy) K by kernel_rfl)
    rw [← e]
    exact h.run
noncomputable abbrev f14_G := f14_G0
theorem f14_G_ok : FnOk Tryd.prog glob 14 f14_G := f14_ok0
end Go.Eng.N
set_option linter.unusedVariables false
set_option maxRecDepth 100000
open Go Go.Eng Go.Proofs
namespace Go.Eng.N
/-! ### f36: plenum/plenumlaw39.hvac -/
noncomputable def f36_d (k0 : ByteArray → Int → Int → (List (List PC)) → Bool → Prop) : Prop := k0 (⟨#[104, 118, 97, 99]⟩ : ByteArray) 20 3 [[pS (⟨#[100, 97, 121]⟩ : ByteArray), pI 31, pI 480, pI 1019, pI 7], [pS (⟨#[119, 97, 116, 99, 104]⟩ : ByteArray), pI 127, pI 0, pI 1439, pI 3]] false
structure f36 (k0 : ByteArray → Int → Int → (List (List PC)) → Bool → Prop) : Prop where
  run : f36_d k0
noncomputable def f36_tab : List (Nat × Told) := []
noncomputable def f36_call : FuncId → List TV → List Entry → (TV → List Entry → Prop) → Prop := noCalls
noncomputable def f36_C : Ctx := { ty := tyOf tab, glob := glob, byRef := byRef, keep := fun k i => lookN [] (lookN [] ([] : List (Nat × List (Nat × List Nat))) k) i, late := lookN [] ([] : List (Nat × List Nat)), nref := lookN [] ([] : List (Nat × List Nat)), nbox := lookN [] ([] : List (Nat × List (Nat × Nat))), take := [], rnil := false, m := 0, fz := true, loops := lookL f36_tab, call := f36_call }
noncomputable def f36_G0 : List TV → List Entry → (TV → List Entry → Prop) → Prop := fun tm hp K => getS [] [] tm hp fun (xx : Unit) (yy : Unit) => f36 (fun s0_0 n0_1 n0_2 es0_3 full0_4 => K (.w (.pagg [pS s0_0, pI n0_1, pI n0_2, .sl 5 es0_3 full0_4])) [])
set_option maxRecDepth 100000 in
theorem f36_eq (K : TV → List Entry → Prop) : (f36_d (fun s0_0 n0_1 n0_2 es0_3 full0_4 => K (.w (.pagg [pS s0_0, pI n0_1, pI n0_2, .sl 5 es0_3 full0_4])) [])) = funcT f36_C Tryd.f36 [] [] K := by kernel_rfl
set_option maxHeartbeats 4000000 in
theorem f36_ok0 : FnOk Tryd.prog glob 36 f36_G0 := by
  refine FnOk.of_text (C := f36_C) tab_ok.ok (Known.none) follows_ok (fn := Tryd.f36) (by kernel_rfl) (by kernel_rfl) (by kernel_rfl) (fun c hc => ?_) fun tm hp K h => ?_
  · have e : c = bodyOf Tryd.f36 := Option.some.inj (hc.symm.trans (by kernel_rfl))
    subst e
    exact ⟨LoopsOk.of [] (by kernel_rfl) trivial, TailsOk.of (tab := f36_tab) rfl [] (by kernel_rfl) trivial⟩
  · unfold f36_G0 at h
    obtain ⟨xx, yy, rfl, rfl, h⟩ := getS_elim h
    have e := (f36_eq K).trans (show _ = funcT f36_C Tryd.f36 (mkR _ xx) (mkE _ yy) K by kernel_rfl)
    rw [← e]
    exact h.run
noncomputable abbrev f36_G := f36_G0
theorem f36_G_ok : FnOk Tryd.prog glob 36 f36_G := f36_ok0
end Go.Eng.N
set_option linter.unusedVariables false
set_option maxRecDepth 100000
open Go Go.Eng Go.Proofs
namespace Go.Eng.N
/-! ### f12: plenum/plenumlaw39.awake -/
noncomputable def f12_d (k0 : Bool → Prop) : Prop := f36 (fun s1 n2 n3 es4 full5 => f19 s1 n2 n3 es4 full5 43200 1 (fun es6 full7 n8 => f19 s1 n2 n3 es4 full5 43200 0 (fun es9 full10 n11 => f19 s1 n2 n3 es4 full5 201600 3 (fun es12 full13 n14 => f21 s1 n2 n3 es4 full5 0 (⟨#[]⟩ : ByteArray) 43200 0 4 0 0 (fun es15 full16 n17 => f25 s1 n2 n3 es4 full5 0 (fun es18 full19 n20 => f25 s1 n2 n3 es4 full5 4 (fun es21 full22 n23 => f27 s1 n2 n3 es4 full5 (⟨#[100, 97, 121]⟩ : ByteArray) (fun s24 n25 n26 es27 full28 n29 => f14 s1 n2 n3 es4 full5 (fun es30 full31 b32 es33 full34 n35 n36 => bB (n8 == 0) (bB (((es6.length : Nat) : Int) == 1) ((0 ≤ (0 : Int) ∧ (0 : Int) < ((es6.length : Nat) : Int)) ∧ oS (ext (List.getD es6 0 []) 0 1) fun s37 => bB (s37.toList == (⟨#[119, 97, 116, 99, 104]⟩ : ByteArray).toList) (bB (n11 == 0) (bB (((es9.length : Nat) : Int) == 0) (bB (n14 == 0) (bB (((es12.length : Nat) : Int) == 2) ((0 ≤ (0 : Int) ∧ (0 : Int) < ((es12.length : Nat) : Int)) ∧ oS (ext (List.getD es12 0 []) 0 1) fun s38 => bB (s38.toList == (⟨#[100, 97, 121]⟩ : ByteArray).toList) (bB (n17 == 0) (bB (((es15.length : Nat) : Int) == 1) ((0 ≤ (0 : Int) ∧ (0 : Int) < ((es15.length : Nat) : Int)) ∧ oB (ext (List.getD es15 0 []) 9 1) fun b39 => bB b39 ((0 ≤ (0 : Int) ∧ (0 : Int) < ((es15.length : Nat) : Int)) ∧ oI .i64 (ext (List.getD es15 0 []) 8 1) fun n40 => bB (n40 == 20) (bB (n20 == 0) (bB (((es18.length : Nat) : Int) == 12) ((0 ≤ (1 : Int) ∧ (1 : Int) < ((es18.length : Nat) : Int)) ∧ cI .i64 (ext (List.getD es18 1 []) 0 3) fun n42 r41 => cI .i64 r41 fun n44 r43 => cI .i64 r43 fun n46 r45 => nilC r45 <| bB ((n42 == 1) && ((n44 == 1020) && ((n46 == 1439) && true))) (bB (n23 == 0) (bB (((es21.length : Nat) : Int) == 0) (bB (n29 == 10) (bB (n36 == 0) (bB (((es33.length : Nat) : Int) == 2) (f16 s1 n2 n3 es4 full5 (fun n47 => k0 (n47 == 0))) (k0 false)) (k0 false)) (k0 false)) (k0 false)) (k0 false)) (k0 false)) (k0 false)) (k0 false)) (k0 false)) (k0 false)) (k0 false)) (k0 false)) (k0 false)) (k0 false)) (k0 false)) (k0 false)) (k0 false)) (k0 false)) (k0 false)) (k0 false))))))))))
structure f12 (k0 : Bool → Prop) : Prop where
  run : f12_d k0
noncomputable def f12_tab : List (Nat × Told) := []
noncomputable def f12_call : FuncId → List TV → List Entry → (TV → List Entry → Prop) → Prop := addCall 36 f36_G (addCall 27 f27_G (addCall 25 f25_G (addCall 21 f21_G (addCall 19 f19_G (addCall 16 f16_G (addCall 14 f14_G (noCalls)))))))
noncomputable def f12_C : Ctx := { ty := tyOf tab, glob := glob, byRef := byRef, keep := fun k i => lookN [] (lookN [] ([] : List (Nat × List (Nat × List Nat))) k) i, late := lookN [] ([] : List (Nat × List Nat)), nref := lookN [] ([] : List (Nat × List Nat)), nbox := lookN [] ([] : List (Nat × List (Nat × Nat))), take := [], rnil := false, m := 0, fz := true, loops := lookL f12_tab, call := f12_call }
noncomputable def f12_G0 : List TV → List Entry → (TV → List Entry → Prop) → Prop := fun tm hp K => getS [] [] tm hp fun (xx : Unit) (yy : Unit) => f12 (fun b0_0 => K (B b0_0) [])
set_option maxRecDepth 100000 in
theorem f12_eq (K : TV → List Entry → Prop) : (f12_d (fun b0_0 => K (B b0_0) [])) = funcT f12_C Tryd.f12 [] [] K := by kernel_rfl
set_option maxHeartbeats 4000000 in
theorem f12_ok0 : FnOk Tryd.prog glob 12 f12_G0 := by
  refine FnOk.of_text (C := f12_C) tab_ok.ok (Known.add f36_G_ok (Known.add f27_G_ok (Known.add f25_G_ok (Known.add f21_G_ok (Known.add f19_G_ok (Known.add f16_G_ok (Known.add f14_G_ok (Known.none)))))))) follows_ok (fn := Tryd.f12) (by kernel_rfl) (by kernel_rfl) (by kernel_rfl) (fun c hc => ?_) fun tm hp K h => ?_
  · have e : c = bodyOf Tryd.f12 := Option.some.inj (hc.symm.trans (by kernel_rfl))
    subst e
    exact ⟨LoopsOk.of [] (by kernel_rfl) trivial, TailsOk.of (tab := f12_tab) rfl [] (by kernel_rfl) trivial⟩
  · unfold f12_G0 at h
    obtain ⟨xx, yy, rfl, rfl, h⟩ := getS_elim h
    have e := (f12_eq K).trans (show _ = funcT f12_C Tryd.f12 (mkR _ xx) (mkE _ yy) K by kernel_rfl)
    rw [← e]
    exact h.run
noncomputable abbrev f12_G := f12_G0
theorem f12_G_ok : FnOk Tryd.prog glob 12 f12_G := f12_ok0
end Go.Eng.N
set_option linter.unusedVariables false
set_option maxRecDepth 100000
open Go Go.Eng Go.Proofs
namespace Go.Eng.N
/-! ### f5: plenum/plenumlaw39.NotifyGaps -/
noncomputable def f5_p20b0 (s33 : ByteArray) (es34 : List (List PC)) (full35 : Bool) (es36 : List (List PC)) (full37 : Bool) (n38 : Int) (s39 : ByteArray) (n40 : Int) (n41 : Int) (es42 : List (List PC)) (full43 : Bool) (N0 : Int → Prop) (k0 : Bool → Prop) (k1 : Unit → Prop) : Prop := bB (decide (n38 < ((es34.length : Nat) : Int))) ((0 ≤ n38 ∧ n38 < ((es34.length : Nat) : Int)) ∧ oI .i64 (ext (List.getD es34 (Int.toNat n38) []) 0 1) fun n44 => (0 ≤ n38 ∧ n38 < ((es36.length : Nat) : Int)) ∧ oI .i64 (ext (List.getD es36 (Int.toNat n38) []) 0 1) fun n45 => bB (n44 != n45) (k0 false) ((0 ≤ n38 ∧ n38 < ((es34.length : Nat) : Int)) ∧ oI .i64 (ext (List.getD es34 (Int.toNat n38) []) 1 1) fun n46 => (0 ≤ n38 ∧ n38 < ((es36.length : Nat) : Int)) ∧ oI .i64 (ext (List.getD es36 (Int.toNat n38) []) 1 1) fun n47 => bB (n46 != n47) (k0 false) ((0 ≤ n38 ∧ n38 < ((es34.length : Nat) : Int)) ∧ oI .i64 (ext (List.getD es34 (Int.toNat n38) []) 2 1) fun n48 => (0 ≤ n38 ∧ n38 < ((es36.length : Nat) : Int)) ∧ oI .i64 (ext (List.getD es36 (Int.toNat n38) []) 2 1) fun n49 => bB (n48 != n49) (k0 false) (N0 (w64 (n38 + 1)))))) (k1 ())
noncomputable def f5_p20 (s33 : ByteArray) (es34 : List (List PC)) (full35 : Bool) (es36 : List (List PC)) (full37 : Bool) (s39 : ByteArray) (n40 : Int) (n41 : Int) (es42 : List (List PC)) (full43 : Bool) (k0 : Bool → Prop) (k1 : Unit → Prop) : Int → Prop := LoopP fun x N => f5_p20b0 s33 es34 full35 es36 full37 x s39 n40 n41 es42 full43 (fun n38 => N n38) k0 k1
noncomputable def f5_p19 (s23 : ByteArray) (es24 : List (List PC)) (full25 : Bool) (es26 : List (List PC)) (full27 : Bool) (s28 : ByteArray) (n29 : Int) (n30 : Int) (es31 : List (List PC)) (full32 : Bool) (k0 : Bool → Prop) : Prop := f5_p20 s23 es24 full25 es26 full27 s28 n29 n30 es31 full32 (fun b50 => k0 b50) (fun (_ : Unit) => f27 s28 n29 n30 es31 full32 s23 (fun s51 n52 n53 es54 full55 n56 => f28 s28 n29 n30 es31 full32 s23 (fun s57 n58 n59 es60 full61 n62 => bB (n56 == n62) (f29 s51 n52 n53 es54 full55 s57 n58 n59 es60 full61 (fun b63 => k0 b63)) (k0 false)))) 0
noncomputable def f5_p11 (n10 : Int) (s11 : ByteArray) (s12 : ByteArray) (n13 : Int) (n14 : Int) (es15 : List (List PC)) (full16 : Bool) (k0 : Bool → Prop) : Prop := f25 s12 n13 n14 es15 full16 n10 (fun es17 full18 n19 => f26 s12 n13 n14 es15 full16 n10 (fun es20 full21 n22 => bB (n19 != n22) (k0 false) (bB (((es17.length : Nat) : Int) != ((es20.length : Nat) : Int)) (k0 false) (f5_p19 s11 es17 full18 es20 full21 s12 n13 n14 es15 full16 (fun b64 => k0 b64)))))
noncomputable def f5_d (s1 : ByteArray) (n2 : Int) (n3 : Int) (es4 : List (List PC)) (full5 : Bool) (n6 : Int) (s7 : ByteArray) (k0 : Bool → Prop) : Prop := f12 (fun b8 => bB (!b8) (k0 false) (f13 s1 n2 n3 es4 full5 (fun b9 => bB (!b9) (k0 true) (bB (decide (((s7.size : Nat) : Int) > 60)) (k0 true) (f5_p11 n6 s7 s1 n2 n3 es4 full5 (fun b65 => k0 b65))))))
structure f5 (s1 : ByteArray) (n2 : Int) (n3 : Int) (es4 : List (List PC)) (full5 : Bool) (n6 : Int) (s7 : ByteArray) (k0 : Bool → Prop) : Prop where
  run : f5_d s1 n2 n3 es4 full5 n6 s7 k0
noncomputable def f5_p20L : Told := fun s K => match s with
  | ⟨tm, hp⟩ => getS [.skip 2, .v (.one (.str)), .v (.one (.ptr 0 0 0)), .skip 3, .v (.one (.sl 3)), .skip 1, .v (.one (.sl 3)), .skip 1, .v (.one (.int .i64)), .skip 99] [.box [.str, .int .i64, .int .i64, .sl 5]] tm hp fun (xx : (Unit × (ByteArray × (Unit × (Unit × ((List (List PC) × Bool) × (Unit × ((List (List PC) × Bool) × (Unit × (Int × (Unit × Unit))))))))))) (yy : ((ByteArray × (Int × (Int × ((List (List PC) × Bool) × Unit)))) × Unit)) => f5_p20 xx.2.1 xx.2.2.2.2.1.1 xx.2.2.2.2.1.2 xx.2.2.2.2.2.2.1.1 xx.2.2.2.2.2.2.1.2 yy.1.1 yy.1.2.1 yy.1.2.2.1 yy.1.2.2.2.1.1 yy.1.2.2.2.1.2 (fun b0_0 => K .ret ⟨mkS 111 [(6, B b0_0)], []⟩) (fun (_ : Unit) => K (.exit 0) ⟨mkS 111 [(2, S xx.2.1), (3, .w (.one (.ptr 0 0 0)))], [.box [.p (pS yy.1.1), .p (pI yy.1.2.1), .p (pI yy.1.2.2.1), .p (.sl 5 yy.1.2.2.2.1.1 yy.1.2.2.2.1.2)]]⟩) xx.2.2.2.2.2.2.2.2.1
noncomputable def f5_p19L : Told := fun s K => match s with
  | ⟨tm, hp⟩ => getS [.skip 2, .v (.one (.str)), .v (.one (.ptr 0 0 0)), .skip 3, .v (.one (.sl 3)), .skip 1, .v (.one (.sl 3)), .skip 101] [.box [.str, .int .i64, .int .i64, .sl 5]] tm hp fun (xx : (Unit × (ByteArray × (Unit × (Unit × ((List (List PC) × Bool) × (Unit × ((List (List PC) × Bool) × (Unit × Unit))))))))) (yy : ((ByteArray × (Int × (Int × ((List (List PC) × Bool) × Unit)))) × Unit)) => f5_p19 xx.2.1 xx.2.2.2.2.1.1 xx.2.2.2.2.1.2 xx.2.2.2.2.2.2.1.1 xx.2.2.2.2.2.2.1.2 yy.1.1 yy.1.2.1 yy.1.2.2.1 yy.1.2.2.2.1.1 yy.1.2.2.2.1.2 (fun b0_1 => K .ret ⟨mkS 111 [(6, B b0_1)], []⟩)
noncomputable def f5_p11L : Told := fun s K => match s with
  | ⟨tm, hp⟩ => getS [.skip 1, .v (.one (.int .i64)), .v (.one (.str)), .v (.one (.ptr 0 0 0)), .skip 107] [.box [.str, .int .i64, .int .i64, .sl 5]] tm hp fun (xx : (Unit × (Int × (ByteArray × (Unit × (Unit × Unit)))))) (yy : ((ByteArray × (Int × (Int × ((List (List PC) × Bool) × Unit)))) × Unit)) => f5_p11 xx.2.1 xx.2.2.1 yy.1.1 yy.1.2.1 yy.1.2.2.1 yy.1.2.2.2.1.1 yy.1.2.2.2.1.2 (fun b0_2 => K .ret ⟨mkS 111 [(6, B b0_2)], []⟩)
noncomputable def f5_tab : List (Nat × Told) := [(20, f5_p20L), (19, f5_p19L), (11, f5_p11L)]
noncomputable def f5_call : FuncId → List TV → List Entry → (TV → List Entry → Prop) → Prop := addCall 29 f29_G (addCall 28 f28_G (addCall 27 f27_G (addCall 26 f26_G (addCall 25 f25_G (addCall 13 f13_G (addCall 12 f12_G (noCalls)))))))
noncomputable def f5_C : Ctx := { ty := tyOf tab, glob := glob, byRef := byRef, keep := fun k i => lookN [] (lookN [] ([(20, [(0, [2, 3, 7, 9, 11]), (2, [6]), (3, [2, 3])]), (19, [(0, [2, 3, 7, 9]), (1, [6]), (2, [6])]), (11, [(0, [1, 2, 3]), (1, [6]), (2, [6])])] : List (Nat × List (Nat × List Nat))) k) i, late := lookN [] ([] : List (Nat × List Nat)), nref := lookN [] ([] : List (Nat × List Nat)), nbox := lookN [] ([] : List (Nat × List (Nat × Nat))), take := [], rnil := false, m := 0, fz := true, loops := lookL f5_tab, call := f5_call }
noncomputable def f5_p20_mk (s33 : ByteArray) (es34 : List (List PC)) (full35 : Bool) (es36 : List (List PC)) (full37 : Bool) (s39 : ByteArray) (n40 : Int) (n41 : Int) (es42 : List (List PC)) (full43 : Bool) (x : Int) : St := ⟨mkS 111 [(2, S s33), (3, .w (.one (.ptr 0 0 0))), (7, .w (.one (.p (.sl 3 es34 full35)))), (9, .w (.one (.p (.sl 3 es36 full37)))), (11, I x)], [.box [.p (pS s39), .p (pI n40), .p (pI n41), .p (.sl 5 es42 full43)]]⟩
set_option maxRecDepth 100000 in
theorem f5_p20e0 (s_14 : ByteArray) (es_15 : List (List PC)) (full_16 : Bool) (es_17 : List (List PC)) (full_18 : Bool) (n_19 : Int) (s_20 : ByteArray) (n_21 : Int) (n_22 : Int) (es_23 : List (List PC)) (full_24 : Bool) (N : St → Prop) (K : TExit → St → Prop) : (f5_p20b0 s_14 es_15 full_16 es_17 full_18 n_19 s_20 n_21 n_22 es_23 full_24 (fun z5 => N (f5_p20_mk s_14 es_15 full_16 es_17 full_18 s_20 n_21 n_22 es_23 full_24 z5)) (fun b0_25 => K .ret ⟨mkS 111 [(6, B b0_25)], []⟩) (fun (_ : Unit) => K (.exit 0) ⟨mkS 111 [(2, S s_14), (3, .w (.one (.ptr 0 0 0)))], [.box [.p (pS s_20), .p (pI n_21), .p (pI n_22), .p (.sl 5 es_23 full_24)]]⟩)) = execT f5_C (nthC (bodies (bodyOf Tryd.f5)) 0) (f5_p20_mk s_14 es_15 full_16 es_17 full_18 s_20 n_21 n_22 es_23 full_24 n_19) (loopK N (normK f5_C 20) fun e s => K e (normOut f5_C 20 e s)) := by kernel_rfl
set_option maxRecDepth 100000 in
theorem f5_p19e0 (s_26 : ByteArray) (es_27 : List (List PC)) (full_28 : Bool) (es_29 : List (List PC)) (full_30 : Bool) (s_31 : ByteArray) (n_32 : Int) (n_33 : Int) (es_34 : List (List PC)) (full_35 : Bool) (K : TExit → St → Prop) : (f5_p19 s_26 es_27 full_28 es_29 full_30 s_31 n_32 n_33 es_34 full_35 (fun b0_36 => K .ret ⟨mkS 111 [(6, B b0_36)], []⟩)) = execT f5_C (nthC (tails (bodyOf Tryd.f5)) 9) ⟨mkS 111 [(2, S s_26), (3, .w (.one (.ptr 0 0 0))), (7, .w (.one (.p (.sl 3 es_27 full_28)))), (9, .w (.one (.p (.sl 3 es_29 full_30))))], [.box [.p (pS s_31), .p (pI n_32), .p (pI n_33), .p (.sl 5 es_34 full_35)]]⟩ (fun e s => K e (normOut f5_C 19 e s)) := by kernel_rfl
set_option maxRecDepth 100000 in
theorem f5_p11e0 (n_37 : Int) (s_38 : ByteArray) (s_39 : ByteArray) (n_40 : Int) (n_41 : Int) (es_42 : List (List PC)) (full_43 : Bool) (K : TExit → St → Prop) : (f5_p11 n_37 s_38 s_39 n_40 n_41 es_42 full_43 (fun b0_44 => K .ret ⟨mkS 111 [(6, B b0_44)], []⟩)) = execT f5_C (nthC (tails (bodyOf Tryd.f5)) 4) ⟨mkS 111 [(1, I n_37), (2, S s_38), (3, .w (.one (.ptr 0 0 0)))], [.box [.p (pS s_39), .p (pI n_40), .p (pI n_41), .p (.sl 5 es_42 full_43)]]⟩ (fun e s => K e (normOut f5_C 11 e s)) := by kernel_rfl
set_option maxHeartbeats 4000000 in
theorem f5_p20_ok : LoopOk f5_C (nthC (bodies (bodyOf Tryd.f5)) 0) := by
  refine LoopOk.of f5_p20L (by kernel_rfl) fun σ K h => ?_
  have hk : loopKey (nthC (bodies (bodyOf Tryd.f5)) 0) = 20 := by kernel_rfl
  rw [hk] at h ⊢
  generalize hs : normK f5_C 20 σ = s at h
  obtain ⟨tm, hp⟩ := s
  unfold f5_p20L at h
  dsimp only at h
  obtain ⟨xx, yy, rfl, rfl, h⟩ := getS_elim h
  refine iter_of (f5_p20_mk xx.2.1 xx.2.2.2.2.1.1 xx.2.2.2.2.1.2 xx.2.2.2.2.2.2.1.1 xx.2.2.2.2.2.2.1.2 yy.1.1 yy.1.2.1 yy.1.2.2.1 yy.1.2.2.2.1.1 yy.1.2.2.2.1.2) (fun x N h => ?_) rounds _ σ (hs.trans (by kernel_rfl)) (LoopP.run h)
  rw [← f5_p20e0 xx.2.1 xx.2.2.2.2.1.1 xx.2.2.2.2.1.2 xx.2.2.2.2.2.2.1.1 xx.2.2.2.2.2.2.1.2 x yy.1.1 yy.1.2.1 yy.1.2.2.1 yy.1.2.2.2.1.1 yy.1.2.2.2.1.2 N K]
  exact h
set_option maxHeartbeats 4000000 in
theorem f5_p19_ok : TailOk f5_C (nthC (tails (bodyOf Tryd.f5)) 9) := by
  refine TailOk.of f5_p19L (by kernel_rfl) fun σ K h => ?_
  have hk : joinKey (nthC (tails (bodyOf Tryd.f5)) 9) = 19 := by kernel_rfl
  rw [hk] at h ⊢
  generalize hs : normK f5_C 19 σ = s at h
  obtain ⟨tm, hp⟩ := s
  unfold f5_p19L at h
  dsimp only at h
  obtain ⟨xx, yy, rfl, rfl, h⟩ := getS_elim h
  have q : normK f5_C 19 σ = (⟨mkS 111 [(2, S xx.2.1), (3, .w (.one (.ptr 0 0 0))), (7, .w (.one (.p (.sl 3 xx.2.2.2.2.1.1 xx.2.2.2.2.1.2)))), (9, .w (.one (.p (.sl 3 xx.2.2.2.2.2.2.1.1 xx.2.2.2.2.2.2.1.2))))], [.box [.p (pS yy.1.1), .p (pI yy.1.2.1), .p (pI yy.1.2.2.1), .p (.sl 5 yy.1.2.2.2.1.1 yy.1.2.2.2.1.2)]]⟩ : St) := hs.trans (by kernel_rfl)
  rw [← hs, q, ← f5_p19e0 xx.2.1 xx.2.2.2.2.1.1 xx.2.2.2.2.1.2 xx.2.2.2.2.2.2.1.1 xx.2.2.2.2.2.2.1.2 yy.1.1 yy.1.2.1 yy.1.2.2.1 yy.1.2.2.2.1.1 yy.1.2.2.2.1.2 K]
  exact h
set_option maxHeartbeats 4000000 in
theorem f5_p11_ok : TailOk f5_C (nthC (tails (bodyOf Tryd.f5)) 4) := by
  refine TailOk.of f5_p11L (by kernel_rfl) fun σ K h => ?_
  have hk : joinKey (nthC (tails (bodyOf Tryd.f5)) 4) = 11 := by kernel_rfl
  rw [hk] at h ⊢
  generalize hs : normK f5_C 11 σ = s at h
  obtain ⟨tm, hp⟩ := s
  unfold f5_p11L at h
  dsimp only at h
  obtain ⟨xx, yy, rfl, rfl, h⟩ := getS_elim h
  have q : normK f5_C 11 σ = (⟨mkS 111 [(1, I xx.2.1), (2, S xx.2.2.1), (3, .w (.one (.ptr 0 0 0)))], [.box [.p (pS yy.1.1), .p (pI yy.1.2.1), .p (pI yy.1.2.2.1), .p (.sl 5 yy.1.2.2.2.1.1 yy.1.2.2.2.1.2)]]⟩ : St) := hs.trans (by kernel_rfl)
  rw [← hs, q, ← f5_p11e0 xx.2.1 xx.2.2.1 yy.1.1 yy.1.2.1 yy.1.2.2.1 yy.1.2.2.2.1.1 yy.1.2.2.2.1.2 K]
  exact h
noncomputable def f5_G0 : List TV → List Entry → (TV → List Entry → Prop) → Prop := fun tm hp K => getS [.v (.pagg [.str, .int .i64, .int .i64, .sl 5]), .v (.one (.int .i64)), .v (.one (.str))] [] tm hp fun (xx : ((ByteArray × (Int × (Int × ((List (List PC) × Bool) × Unit)))) × (Int × (ByteArray × Unit)))) (yy : Unit) => f5 xx.1.1 xx.1.2.1 xx.1.2.2.1 xx.1.2.2.2.1.1 xx.1.2.2.2.1.2 xx.2.1 xx.2.2.1 (fun b0_45 => K (B b0_45) [])
set_option maxRecDepth 100000 in
theorem f5_eq (s_46 : ByteArray) (n_47 : Int) (n_48 : Int) (es_49 : List (List PC)) (full_50 : Bool) (n_51 : Int) (s_52 : ByteArray) (K : TV → List Entry → Prop) : (f5_d s_46 n_47 n_48 es_49 full_50 n_51 s_52 (fun b0_45 => K (B b0_45) [])) = funcT f5_C Tryd.f5 [.w (.pagg [pS s_46, pI n_47, pI n_48, .sl 5 es_49 full_50]), I n_51, S s_52] [] K := by kernel_rfl
set_option maxHeartbeats 4000000 in
theorem f5_ok0 : FnOk Tryd.prog glob 5 f5_G0 := by
  refine FnOk.of_text (C := f5_C) tab_ok.ok (Known.add f29_G_ok (Known.add f28_G_ok (Known.add f27_G_ok (Known.add f26_G_ok (Known.add f25_G_ok (Known.add f13_G_ok (Known.add f12_G_ok (Known.none)))))))) follows_ok (fn := Tryd.f5) (by kernel_rfl) (by kernel_rfl) (by kernel_rfl) (fun c hc => ?_) fun tm hp K h => ?_
  · have e : c = bodyOf Tryd.f5 := Option.some.inj (hc.symm.trans (by kernel_rfl))
    subst e
    exact ⟨LoopsOk.of [nthC (bodies (bodyOf Tryd.f5)) 0] (by kernel_rfl) ⟨f5_p20_ok, trivial⟩, TailsOk.of (tab := f5_tab) rfl [nthC (tails (bodyOf Tryd.f5)) 4, nthC (tails (bodyOf Tryd.f5)) 9] (by kernel_rfl) ⟨f5_p11_ok, f5_p19_ok, trivial⟩⟩
  · unfold f5_G0 at h
    obtain ⟨xx, yy, rfl, rfl, h⟩ := getS_elim h
    have e := (f5_eq xx.1.1 xx.1.2.1 xx.1.2.2.1 xx.1.2.2.2.1.1 xx.1.2.2.2.1.2 xx.2.1 xx.2.2.1 K).trans (show _ = funcT f5_C Tryd.f5 (mkR _ xx) (mkE _ yy) K by kernel_rfl)
    rw [← e]
    exact h.run
noncomputable abbrev f5_G := f5_G0
theorem f5_G_ok : FnOk Tryd.prog glob 5 f5_G := f5_ok0
end Go.Eng.N
set_option linter.unusedVariables false
set_option maxRecDepth 100000
open Go Go.Eng Go.Proofs
namespace Go.Eng.N
/-! ### f7: plenum/plenumlaw39.NotifyLeft -/
noncomputable def f7_p32b0 (s44 : ByteArray) (es45 : List (List PC)) (full46 : Bool) (es47 : List (List PC)) (full48 : Bool) (i49 : Nat) (n50 : Nat) (n51 : Int) (es52 : List (List PC)) (N0 : Nat → Nat → Int → (List (List PC)) → Prop) (k0 : Nat → Nat → (List (List PC)) → Prop) : Prop := bB (decide (n51 < ((es45.length : Nat) : Int))) ((0 ≤ n51 ∧ n51 < ((es45.length : Nat) : Int)) ∧ oS (ext (List.getD es45 (Int.toNat n51) []) 0 1) fun s53 => bB (!(s53.toList == s44.toList)) ((0 ≤ n51 ∧ n51 < ((es45.length : Nat) : Int)) ∧ oS (ext (List.getD es45 (Int.toNat n51) []) 0 1) fun s54 => (i49 + n50) = es52.length ∧ (n50 + 1) * 16 ≤ 2 ^ 46 ∧ (n50 + 1) ≤ 2 ^ 46 ∧ N0 0 (n50 + 1) (w64 (n51 + 1)) (List.drop i49 es52 ++ [[pS s54]])) (N0 i49 n50 (w64 (n51 + 1)) es52)) (k0 i49 n50 es52)
noncomputable def f7_p32 (s44 : ByteArray) (es45 : List (List PC)) (full46 : Bool) (es47 : List (List PC)) (full48 : Bool) (k0 : Nat → Nat → (List (List PC)) → Prop) : Nat × Nat × Int × (List (List PC)) → Prop := LoopP fun x N => f7_p32b0 s44 es45 full46 es47 full48 x.1 x.2.1 x.2.2.1 x.2.2.2 (fun i49 n50 n51 es52 => N (i49, n50, n51, es52)) k0
noncomputable def f7_p29 (s39 : ByteArray) (es40 : List (List PC)) (full41 : Bool) (es42 : List (List PC)) (full43 : Bool) (k0 : Bool → Prop) : Prop := f7_p32 s39 es40 full41 es42 full43 (fun i55 n56 es57 => f23 (List.take n56 (List.drop i55 es57)) false es42 full43 (fun b58 => k0 b58)) (0, 0, 0, [])
noncomputable def f7_p25 (s33 : ByteArray) (es34 : List (List PC)) (full35 : Bool) (n36 : Int) (es37 : List (List PC)) (full38 : Bool) (k0 : Bool → Prop) : Prop := bB (n36 == 0) (bB (!((decide (((es34.length : Nat) : Int) > 0)) == (decide (((es37.length : Nat) : Int) > 0)))) (k0 false) (f7_p29 s33 es34 full35 es37 full38 (fun b59 => k0 b59))) (f7_p29 s33 es34 full35 es37 full38 (fun b60 => k0 b60))
noncomputable def f7_p11 (s11 : ByteArray) (n12 : Int) (n13 : Int) (s14 : ByteArray) (n15 : Int) (n16 : Int) (es17 : List (List PC)) (full18 : Bool) (k0 : Bool → Prop) : Prop := f27 s14 n15 n16 es17 full18 s11 (fun s19 n20 n21 es22 full23 n24 => bB (n24 != 0) (f29 s19 n20 n21 es22 full23 (⟨#[]⟩ : ByteArray) 0 0 [] true (fun b25 => k0 b25)) (f19 s14 n15 n16 es17 full18 n12 n13 (fun es26 full27 n28 => f19 s19 n20 n21 es22 full23 n12 n13 (fun es29 full30 n31 => bB (n28 != n31) (k0 false) (f16 s19 n20 n21 es22 full23 (fun n32 => bB (n32 != 0) (k0 false) (f7_p25 s11 es26 full27 n28 es29 full30 (fun b61 => k0 b61))))))))
noncomputable def f7_d (s1 : ByteArray) (n2 : Int) (n3 : Int) (es4 : List (List PC)) (full5 : Bool) (s6 : ByteArray) (n7 : Int) (n8 : Int) (k0 : Bool → Prop) : Prop := f12 (fun b9 => bB (!b9) (k0 false) (f13 s1 n2 n3 es4 full5 (fun b10 => bB (!b10) (k0 true) (bB (decide (((s6.size : Nat) : Int) > 60)) (k0 true) (f7_p11 s6 n7 n8 s1 n2 n3 es4 full5 (fun b62 => k0 b62))))))
structure f7 (s1 : ByteArray) (n2 : Int) (n3 : Int) (es4 : List (List PC)) (full5 : Bool) (s6 : ByteArray) (n7 : Int) (n8 : Int) (k0 : Bool → Prop) : Prop where
  run : f7_d s1 n2 n3 es4 full5 s6 n7 n8 k0
noncomputable def f7_p32L : Told := fun s K => match s with
  | ⟨tm, hp⟩ => getS [.skip 1, .v (.one (.str)), .skip 9, .v (.one (.sl 1)), .skip 1, .v (.one (.sl 1)), .skip 1, .v (.one (.ref 0)), .v (.one (.int .i64)), .skip 77] [.vec 1 true] tm hp fun (xx : (Unit × (ByteArray × (Unit × ((List (List PC) × Bool) × (Unit × ((List (List PC) × Bool) × (Unit × ((Nat × Nat) × (Int × (Unit × Unit))))))))))) (yy : ((List (List PC)) × Unit)) => f7_p32 xx.2.1 xx.2.2.2.1.1 xx.2.2.2.1.2 xx.2.2.2.2.2.1.1 xx.2.2.2.2.2.1.2 (fun i0_0 n0_1 es0_2 => K (.exit 0) ⟨mkS 94 [(13, .w (.one (.p (.sl 1 xx.2.2.2.2.2.1.1 xx.2.2.2.2.2.1.2)))), (15, .w (.one (.ref 0 i0_0 n0_1)))], [.vec 1 es0_2 true]⟩) (xx.2.2.2.2.2.2.2.1.1, xx.2.2.2.2.2.2.2.1.2, xx.2.2.2.2.2.2.2.2.1, yy.1)
noncomputable def f7_p29L : Told := fun s K => match s with
  | ⟨tm, hp⟩ => getS [.skip 1, .v (.one (.str)), .skip 9, .v (.one (.sl 1)), .skip 1, .v (.one (.sl 1)), .skip 80] [] tm hp fun (xx : (Unit × (ByteArray × (Unit × ((List (List PC) × Bool) × (Unit × ((List (List PC) × Bool) × (Unit × Unit)))))))) (yy : Unit) => f7_p29 xx.2.1 xx.2.2.2.1.1 xx.2.2.2.1.2 xx.2.2.2.2.2.1.1 xx.2.2.2.2.2.1.2 (fun b0_3 => K .ret ⟨mkS 94 [(8, B b0_3)], []⟩)
noncomputable def f7_p25L : Told := fun s K => match s with
  | ⟨tm, hp⟩ => getS [.skip 1, .v (.one (.str)), .skip 9, .v (.one (.sl 1)), .v (.one (.int .i64)), .v (.one (.sl 1)), .skip 80] [] tm hp fun (xx : (Unit × (ByteArray × (Unit × ((List (List PC) × Bool) × (Int × ((List (List PC) × Bool) × (Unit × Unit)))))))) (yy : Unit) => f7_p25 xx.2.1 xx.2.2.2.1.1 xx.2.2.2.1.2 xx.2.2.2.2.1 xx.2.2.2.2.2.1.1 xx.2.2.2.2.2.1.2 (fun b0_4 => K .ret ⟨mkS 94 [(8, B b0_4)], []⟩)
noncomputable def f7_p11L : Told := fun s K => match s with
  | ⟨tm, hp⟩ => getS [.skip 1, .v (.one (.str)), .v (.one (.int .i64)), .v (.one (.int .i64)), .v (.one (.ptr 0 0 0)), .skip 89] [.box [.str, .int .i64, .int .i64, .sl 5]] tm hp fun (xx : (Unit × (ByteArray × (Int × (Int × (Unit × (Unit × Unit))))))) (yy : ((ByteArray × (Int × (Int × ((List (List PC) × Bool) × Unit)))) × Unit)) => f7_p11 xx.2.1 xx.2.2.1 xx.2.2.2.1 yy.1.1 yy.1.2.1 yy.1.2.2.1 yy.1.2.2.2.1.1 yy.1.2.2.2.1.2 (fun b0_5 => K .ret ⟨mkS 94 [(8, B b0_5)], []⟩)
noncomputable def f7_tab : List (Nat × Told) := [(32, f7_p32L), (29, f7_p29L), (25, f7_p25L), (11, f7_p11L)]
noncomputable def f7_call : FuncId → List TV → List Entry → (TV → List Entry → Prop) → Prop := addCall 29 f29_G (addCall 27 f27_G (addCall 23 f23_G (addCall 19 f19_G (addCall 16 f16_G (addCall 13 f13_G (addCall 12 f12_G (noCalls)))))))
noncomputable def f7_C : Ctx := { ty := tyOf tab, glob := glob, byRef := byRef, keep := fun k i => lookN [] (lookN [] ([(32, [(0, [1, 11, 13, 15, 16]), (2, [8]), (3, [13, 15])]), (29, [(0, [1, 11, 13]), (1, [8]), (2, [8])]), (25, [(0, [1, 11, 12, 13]), (1, [8]), (2, [8])]), (11, [(0, [1, 2, 3, 4]), (1, [8]), (2, [8])])] : List (Nat × List (Nat × List Nat))) k) i, late := lookN [] ([] : List (Nat × List Nat)), nref := lookN [] ([] : List (Nat × List Nat)), nbox := lookN [] ([] : List (Nat × List (Nat × Nat))), take := [], rnil := false, m := 0, fz := true, loops := lookL f7_tab, call := f7_call }
noncomputable def f7_p32_mk (s44 : ByteArray) (es45 : List (List PC)) (full46 : Bool) (es47 : List (List PC)) (full48 : Bool) (x : Nat × Nat × Int × (List (List PC))) : St := ⟨mkS 94 [(1, S s44), (11, .w (.one (.p (.sl 1 es45 full46)))), (13, .w (.one (.p (.sl 1 es47 full48)))), (15, .w (.one (.ref 0 x.1 x.2.1))), (16, I x.2.2.1)], [.vec 1 x.2.2.2 true]⟩
set_option maxRecDepth 100000 in
theorem f7_p32e0 (s_15 : ByteArray) (es_16 : List (List PC)) (full_17 : Bool) (es_18 : List (List PC)) (full_19 : Bool) (i_20 : Nat) (n_21 : Nat) (n_22 : Int) (es_23 : List (List PC)) (N : St → Prop) (K : TExit → St → Prop) : (f7_p32b0 s_15 es_16 full_17 es_18 full_19 i_20 n_21 n_22 es_23 (fun z5 z6 z7 z8 => N (f7_p32_mk s_15 es_16 full_17 es_18 full_19 (z5, z6, z7, z8))) (fun i0_24 n0_25 es0_26 => K (.exit 0) ⟨mkS 94 [(13, .w (.one (.p (.sl 1 es_18 full_19)))), (15, .w (.one (.ref 0 i0_24 n0_25)))], [.vec 1 es0_26 true]⟩)) = execT f7_C (nthC (bodies (bodyOf Tryd.f7)) 0) (f7_p32_mk s_15 es_16 full_17 es_18 full_19 (i_20, n_21, n_22, es_23)) (loopK N (normK f7_C 32) fun e s => K e (normOut f7_C 32 e s)) := by kernel_rfl
set_option maxRecDepth 100000 in
theorem f7_p29e0 (s_27 : ByteArray) (es_28 : List (List PC)) (full_29 : Bool) (es_30 : List (List PC)) (full_31 : Bool) (K : TExit → St → Prop) : (f7_p29 s_27 es_28 full_29 es_30 full_31 (fun b0_32 => K .ret ⟨mkS 94 [(8, B b0_32)], []⟩)) = execT f7_C (nthC (tails (bodyOf Tryd.f7)) 16) ⟨mkS 94 [(1, S s_27), (11, .w (.one (.p (.sl 1 es_28 full_29)))), (13, .w (.one (.p (.sl 1 es_30 full_31))))], []⟩ (fun e s => K e (normOut f7_C 29 e s)) := by kernel_rfl
set_option maxRecDepth 100000 in
theorem f7_p25e0 (s_33 : ByteArray) (es_34 : List (List PC)) (full_35 : Bool) (n_36 : Int) (es_37 : List (List PC)) (full_38 : Bool) (K : TExit → St → Prop) : (f7_p25 s_33 es_34 full_35 n_36 es_37 full_38 (fun b0_39 => K .ret ⟨mkS 94 [(8, B b0_39)], []⟩)) = execT f7_C (nthC (tails (bodyOf Tryd.f7)) 13) ⟨mkS 94 [(1, S s_33), (11, .w (.one (.p (.sl 1 es_34 full_35)))), (12, I n_36), (13, .w (.one (.p (.sl 1 es_37 full_38))))], []⟩ (fun e s => K e (normOut f7_C 25 e s)) := by kernel_rfl
set_option maxRecDepth 100000 in
theorem f7_p11e0 (s_40 : ByteArray) (n_41 : Int) (n_42 : Int) (s_43 : ByteArray) (n_44 : Int) (n_45 : Int) (es_46 : List (List PC)) (full_47 : Bool) (K : TExit → St → Prop) : (f7_p11 s_40 n_41 n_42 s_43 n_44 n_45 es_46 full_47 (fun b0_48 => K .ret ⟨mkS 94 [(8, B b0_48)], []⟩)) = execT f7_C (nthC (tails (bodyOf Tryd.f7)) 4) ⟨mkS 94 [(1, S s_40), (2, I n_41), (3, I n_42), (4, .w (.one (.ptr 0 0 0)))], [.box [.p (pS s_43), .p (pI n_44), .p (pI n_45), .p (.sl 5 es_46 full_47)]]⟩ (fun e s => K e (normOut f7_C 11 e s)) := by kernel_rfl
set_option maxHeartbeats 4000000 in
theorem f7_p32_ok : LoopOk f7_C (nthC (bodies (bodyOf Tryd.f7)) 0) := by
  refine LoopOk.of f7_p32L (by kernel_rfl) fun σ K h => ?_
  have hk : loopKey (nthC (bodies (bodyOf Tryd.f7)) 0) = 32 := by kernel_rfl
  rw [hk] at h ⊢
  generalize hs : normK f7_C 32 σ = s at h
  obtain ⟨tm, hp⟩ := s
  unfold f7_p32L at h
  dsimp only at h
  obtain ⟨xx, yy, rfl, rfl, h⟩ := getS_elim h
  refine iter_of (f7_p32_mk xx.2.1 xx.2.2.2.1.1 xx.2.2.2.1.2 xx.2.2.2.2.2.1.1 xx.2.2.2.2.2.1.2) (fun x N h => ?_) rounds _ σ (hs.trans (by kernel_rfl)) (LoopP.run h)
  obtain ⟨y0, y1, y2, y3⟩ := x
  rw [← f7_p32e0 xx.2.1 xx.2.2.2.1.1 xx.2.2.2.1.2 xx.2.2.2.2.2.1.1 xx.2.2.2.2.2.1.2 y0 y1 y2 y3 N K]
  exact h
set_option maxHeartbeats 4000000 in
theorem f7_p29_ok : TailOk f7_C (nthC (tails (bodyOf Tryd.f7)) 16) := by
  refine TailOk.of f7_p29L (by kernel_rfl) fun σ K h => ?_
  have hk : joinKey (nthC (tails (bodyOf Tryd.f7)) 16) = 29 := by kernel_rfl
  rw [hk] at h ⊢
  generalize hs : normK f7_C 29 σ = s at h
  obtain ⟨tm, hp⟩ := s
  unfold f7_p29L at h
  dsimp only at h
  obtain ⟨xx, yy, rfl, rfl, h⟩ := getS_elim h
  have q : normK f7_C 29 σ = (⟨mkS 94 [(1, S xx.2.1), (11, .w (.one (.p (.sl 1 xx.2.2.2.1.1 xx.2.2.2.1.2)))), (13, .w (.one (.p (.sl 1 xx.2.2.2.2.2.1.1 xx.2.2.2.2.2.1.2))))], []⟩ : St) := hs.trans (by kernel_rfl)
  rw [← hs, q, ← f7_p29e0 xx.2.1 xx.2.2.2.1.1 xx.2.2.2.1.2 xx.2.2.2.2.2.1.1 xx.2.2.2.2.2.1.2 K]
  exact h
set_option maxHeartbeats 4000000 in
theorem f7_p25_ok : TailOk f7_C (nthC (tails (bodyOf Tryd.f7)) 13) := by
  refine TailOk.of f7_p25L (by kernel_rfl) fun σ K h => ?_
  have hk : joinKey (nthC (tails (bodyOf Tryd.f7)) 13) = 25 := by kernel_rfl
  rw [hk] at h ⊢
  generalize hs : normK f7_C 25 σ = s at h
  obtain ⟨tm, hp⟩ := s
  unfold f7_p25L at h
  dsimp only at h
  obtain ⟨xx, yy, rfl, rfl, h⟩ := getS_elim h
  have q : normK f7_C 25 σ = (⟨mkS 94 [(1, S xx.2.1), (11, .w (.one (.p (.sl 1 xx.2.2.2.1.1 xx.2.2.2.1.2)))), (12, I xx.2.2.2.2.1), (13, .w (.one (.p (.sl 1 xx.2.2.2.2.2.1.1 xx.2.2.2.2.2.1.2))))], []⟩ : St) := hs.trans (by kernel_rfl)
  rw [← hs, q, ← f7_p25e0 xx.2.1 xx.2.2.2.1.1 xx.2.2.2.1.2 xx.2.2.2.2.1 xx.2.2.2.2.2.1.1 xx.2.2.2.2.2.1.2 K]
  exact h
set_option maxHeartbeats 4000000 in
theorem f7_p11_ok : TailOk f7_C (nthC (tails (bodyOf Tryd.f7)) 4) := by
  refine TailOk.of f7_p11L (by kernel_rfl) fun σ K h => ?_
  have hk : joinKey (nthC (tails (bodyOf Tryd.f7)) 4) = 11 := by kernel_rfl
  rw [hk] at h ⊢
  generalize hs : normK f7_C 11 σ = s at h
  obtain ⟨tm, hp⟩ := s
  unfold f7_p11L at h
  dsimp only at h
  obtain ⟨xx, yy, rfl, rfl, h⟩ := getS_elim h
  have q : normK f7_C 11 σ = (⟨mkS 94 [(1, S xx.2.1), (2, I xx.2.2.1), (3, I xx.2.2.2.1), (4, .w (.one (.ptr 0 0 0)))], [.box [.p (pS yy.1.1), .p (pI yy.1.2.1), .p (pI yy.1.2.2.1), .p (.sl 5 yy.1.2.2.2.1.1 yy.1.2.2.2.1.2)]]⟩ : St) := hs.trans (by kernel_rfl)
  rw [← hs, q, ← f7_p11e0 xx.2.1 xx.2.2.1 xx.2.2.2.1 yy.1.1 yy.1.2.1 yy.1.2.2.1 yy.1.2.2.2.1.1 yy.1.2.2.2.1.2 K]
  exact h
noncomputable def f7_G0 : List TV → List Entry → (TV → List Entry → Prop) → Prop := fun tm hp K => getS [.v (.pagg [.str, .int .i64, .int .i64, .sl 5]), .v (.one (.str)), .v (.one (.int .i64)), .v (.one (.int .i64))] [] tm hp fun (xx : ((ByteArray × (Int × (Int × ((List (List PC) × Bool) × Unit)))) × (ByteArray × (Int × (Int × Unit))))) (yy : Unit) => f7 xx.1.1 xx.1.2.1 xx.1.2.2.1 xx.1.2.2.2.1.1 xx.1.2.2.2.1.2 xx.2.1 xx.2.2.1 xx.2.2.2.1 (fun b0_49 => K (B b0_49) [])
set_option maxRecDepth 100000 in
theorem f7_eq (s_50 : ByteArray) (n_51 : Int) (n_52 : Int) (es_53 : List (List PC)) (full_54 : Bool) (s_55 : ByteArray) (n_56 : Int) (n_57 : Int) (K : TV → List Entry → Prop) : (f7_d s_50 n_51 n_52 es_53 full_54 s_55 n_56 n_57 (fun b0_49 => K (B b0_49) [])) = funcT f7_C Tryd.f7 [.w (.pagg [pS s_50, pI n_51, pI n_52, .sl 5 es_53 full_54]), S s_55, I n_56, I n_57] [] K := by kernel_rfl
set_option maxHeartbeats 4000000 in
theorem f7_ok0 : FnOk Tryd.prog glob 7 f7_G0 := by
  refine FnOk.of_text (C := f7_C) tab_ok.ok (Known.add f29_G_ok (Known.add f27_G_ok (Known.add f23_G_ok (Known.add f19_G_ok (Known.add f16_G_ok (Known.add f13_G_ok (Known.add f12_G_ok (Known.none)))))))) follows_ok (fn := Tryd.f7) (by kernel_rfl) (by kernel_rfl) (by kernel_rfl) (fun c hc => ?_) fun tm hp K h => ?_
  · have e : c = bodyOf Tryd.f7 := Option.some.inj (hc.symm.trans (by kernel_rfl))
    subst e
    exact ⟨LoopsOk.of [nthC (bodies (bodyOf Tryd.f7)) 0] (by kernel_rfl) ⟨f7_p32_ok, trivial⟩, TailsOk.of (tab := f7_tab) rfl [nthC (tails (bodyOf Tryd.f7)) 4, nthC (tails (bodyOf Tryd.f7)) 13, nthC (tails (bodyOf Tryd.f7)) 16] (by kernel_rfl) ⟨f7_p11_ok, f7_p25_ok, f7_p29_ok, trivial⟩⟩
  · unfold f7_G0 at h
    obtain ⟨xx, yy, rfl, rfl, h⟩ := getS_elim h
    have e := (f7_eq xx.1.1 xx.1.2.1 xx.1.2.2.1 xx.1.2.2.2.1.1 xx.1.2.2.2.1.2 xx.2.1 xx.2.2.1 xx.2.2.2.1 K).trans (show _ = funcT f7_C Tryd.f7 (mkR _ xx) (mkE _ yy) K by kernel_rfl)
    rw [← e]
    exact h.run
noncomputable abbrev f7_G := f7_G0
theorem f7_G_ok : FnOk Tryd.prog glob 7 f7_G := f7_ok0
end Go.Eng.N
set_option linter.unusedVariables false
set_option maxRecDepth 100000
open Go Go.Eng Go.Proofs
namespace Go.Eng.N
/-! ### f6: plenum/plenumlaw39.NotifySilent -/
noncomputable def f6_p35 (es38 : List (List PC)) (full39 : Bool) (es40 : List (List PC)) (full41 : Bool) (n42 : Int) (n43 : Int) (b44 : Bool) (n45 : Int) (n46 : Int) (n47 : Int) (n48 : Int) (k0 : Bool → Prop) : Prop := bB b44 (k0 true) (bB (n46 == n42) (bB (decide (n47 ≤ n43)) (k0 (decide (n43 ≤ n48))) (k0 false)) (k0 false))
noncomputable def f6_p24b0 (es21 : List (List PC)) (full22 : Bool) (es23 : List (List PC)) (full24 : Bool) (n25 : Int) (n26 : Int) (b27 : Bool) (n28 : Int) (N0 : Bool → Int → Prop) (k0 : Bool → Prop) (k1 : Bool → Prop) : Prop := bB (decide (n28 < ((es23.length : Nat) : Int))) ((0 ≤ n28 ∧ n28 < ((es23.length : Nat) : Int)) ∧ cI .i64 (ext (List.getD es23 (Int.toNat n28) []) 0 3) fun n30 r29 => cI .i64 r29 fun n32 r31 => cI .i64 r31 fun n34 r33 => nilC r33 <| bB (decide (n32 > n34)) (k0 false) (bB (decide (n28 > 0)) ((0 ≤ (w64 (n28 - 1)) ∧ (w64 (n28 - 1)) < ((es23.length : Nat) : Int)) ∧ oI .i64 (ext (List.getD es23 (Int.toNat (w64 (n28 - 1))) []) 0 1) fun n35 => bB (decide (n35 > n30)) (k0 false) ((0 ≤ (w64 (n28 - 1)) ∧ (w64 (n28 - 1)) < ((es23.length : Nat) : Int)) ∧ oI .i64 (ext (List.getD es23 (Int.toNat (w64 (n28 - 1))) []) 0 1) fun n36 => bB (n36 == n30) ((0 ≤ (w64 (n28 - 1)) ∧ (w64 (n28 - 1)) < ((es23.length : Nat) : Int)) ∧ oI .i64 (ext (List.getD es23 (Int.toNat (w64 (n28 - 1))) []) 2 1) fun n37 => bB (decide ((w64 (n37 + 1)) ≥ n32)) (k0 false) (f6_p35 es21 full22 es23 full24 n25 n26 b27 n28 n30 n32 n34 (fun b49 => N0 b49 (w64 (n28 + 1))))) (f6_p35 es21 full22 es23 full24 n25 n26 b27 n28 n30 n32 n34 (fun b50 => N0 b50 (w64 (n28 + 1)))))) (f6_p35 es21 full22 es23 full24 n25 n26 b27 n28 n30 n32 n34 (fun b51 => N0 b51 (w64 (n28 + 1)))))) (k1 b27)
noncomputable def f6_p24 (es21 : List (List PC)) (full22 : Bool) (es23 : List (List PC)) (full24 : Bool) (n25 : Int) (n26 : Int) (k0 : Bool → Prop) (k1 : Bool → Prop) : Bool × Int → Prop := LoopP fun x N => f6_p24b0 es21 full22 es23 full24 n25 n26 x.1 x.2 (fun b27 n28 => N (b27, n28)) k0 k1
noncomputable def f6_p19 (n16 : Int) (es17 : List (List PC)) (full18 : Bool) (es19 : List (List PC)) (full20 : Bool) (k0 : Bool → Prop) : Prop := (86400 : Int) ≠ 0 ∧ (7 : Int) ≠ 0 ∧ (86400 : Int) ≠ 0 ∧ (60 : Int) ≠ 0 ∧ f6_p24 es17 full18 es19 full20 (w64 ((Int.tmod (w64 ((w64 (Int.tdiv n16 86400)) + 5)) 7) + 1)) (w64 (Int.tdiv (Int.tmod n16 86400) 60)) (fun b52 => k0 b52) (fun b53 => k0 (b53 == (((es17.length : Nat) : Int) == 0))) (false, 0)
noncomputable def f6_d (s1 : ByteArray) (n2 : Int) (n3 : Int) (es4 : List (List PC)) (full5 : Bool) (n6 : Int) (n7 : Int) (k0 : Bool → Prop) : Prop := f12 (fun b8 => bB (!b8) (k0 false) (f13 s1 n2 n3 es4 full5 (fun b9 => bB (!b9) (k0 true) (f19 s1 n2 n3 es4 full5 n6 n7 (fun es10 full11 n12 => f25 s1 n2 n3 es4 full5 n7 (fun es13 full14 n15 => bB (n12 != 0) (k0 true) (bB (n15 != 0) (k0 true) (f6_p19 n6 es10 full11 es13 full14 (fun b54 => k0 b54)))))))))
structure f6 (s1 : ByteArray) (n2 : Int) (n3 : Int) (es4 : List (List PC)) (full5 : Bool) (n6 : Int) (n7 : Int) (k0 : Bool → Prop) : Prop where
  run : f6_d s1 n2 n3 es4 full5 n6 n7 k0
noncomputable def f6_p35L : Told := fun s K => match s with
  | ⟨tm, hp⟩ => getS [.skip 7, .v (.one (.sl 1)), .skip 1, .v (.one (.sl 3)), .skip 1, .v (.one (.int .i64)), .v (.one (.int .i64)), .v (.one (.bool)), .v (.one (.int .i64)), .v (.one (.ptr 0 0 0)), .skip 109] [.box [.int .i64, .int .i64, .int .i64]] tm hp fun (xx : (Unit × ((List (List PC) × Bool) × (Unit × ((List (List PC) × Bool) × (Unit × (Int × (Int × (Bool × (Int × (Unit × (Unit × Unit)))))))))))) (yy : ((Int × (Int × (Int × Unit))) × Unit)) => f6_p35 xx.2.1.1 xx.2.1.2 xx.2.2.2.1.1 xx.2.2.2.1.2 xx.2.2.2.2.2.1 xx.2.2.2.2.2.2.1 xx.2.2.2.2.2.2.2.1 xx.2.2.2.2.2.2.2.2.1 yy.1.1 yy.1.2.1 yy.1.2.2.1 (fun b0_0 => K .normal ⟨mkS 125 [(7, .w (.one (.p (.sl 1 xx.2.1.1 xx.2.1.2)))), (9, .w (.one (.p (.sl 3 xx.2.2.2.1.1 xx.2.2.2.1.2)))), (11, I xx.2.2.2.2.2.1), (12, I xx.2.2.2.2.2.2.1), (13, B b0_0), (14, I xx.2.2.2.2.2.2.2.2.1)], []⟩)
noncomputable def f6_p24L : Told := fun s K => match s with
  | ⟨tm, hp⟩ => getS [.skip 7, .v (.one (.sl 1)), .skip 1, .v (.one (.sl 3)), .skip 1, .v (.one (.int .i64)), .v (.one (.int .i64)), .v (.one (.bool)), .v (.one (.int .i64)), .skip 110] [] tm hp fun (xx : (Unit × ((List (List PC) × Bool) × (Unit × ((List (List PC) × Bool) × (Unit × (Int × (Int × (Bool × (Int × (Unit × Unit))))))))))) (yy : Unit) => f6_p24 xx.2.1.1 xx.2.1.2 xx.2.2.2.1.1 xx.2.2.2.1.2 xx.2.2.2.2.2.1 xx.2.2.2.2.2.2.1 (fun b0_1 => K .ret ⟨mkS 125 [(6, B b0_1)], []⟩) (fun b1_2 => K (.exit 0) ⟨mkS 125 [(7, .w (.one (.p (.sl 1 xx.2.1.1 xx.2.1.2)))), (13, B b1_2)], []⟩) (xx.2.2.2.2.2.2.2.1, xx.2.2.2.2.2.2.2.2.1)
noncomputable def f6_p19L : Told := fun s K => match s with
  | ⟨tm, hp⟩ => getS [.skip 1, .v (.one (.int .i64)), .skip 5, .v (.one (.sl 1)), .skip 1, .v (.one (.sl 3)), .skip 115] [] tm hp fun (xx : (Unit × (Int × (Unit × ((List (List PC) × Bool) × (Unit × ((List (List PC) × Bool) × (Unit × Unit)))))))) (yy : Unit) => f6_p19 xx.2.1 xx.2.2.2.1.1 xx.2.2.2.1.2 xx.2.2.2.2.2.1.1 xx.2.2.2.2.2.1.2 (fun b0_3 => K .ret ⟨mkS 125 [(6, B b0_3)], []⟩)
noncomputable def f6_tab : List (Nat × Told) := [(35, f6_p35L), (24, f6_p24L), (19, f6_p19L)]
noncomputable def f6_call : FuncId → List TV → List Entry → (TV → List Entry → Prop) → Prop := addCall 25 f25_G (addCall 19 f19_G (addCall 13 f13_G (addCall 12 f12_G (noCalls))))
noncomputable def f6_C : Ctx := { ty := tyOf tab, glob := glob, byRef := byRef, keep := fun k i => lookN [] (lookN [] ([(35, [(0, [7, 9, 11, 12, 13, 14, 15]), (1, [7, 9, 11, 12, 13, 14]), (2, [6]), (3, [7, 13]), (4, [7, 9, 11, 12, 13, 14])]), (24, [(0, [7, 9, 11, 12, 13, 14]), (2, [6]), (3, [7, 13])]), (19, [(0, [1, 7, 9]), (1, [6]), (2, [6])])] : List (Nat × List (Nat × List Nat))) k) i, late := lookN [] ([] : List (Nat × List Nat)), nref := lookN [] ([] : List (Nat × List Nat)), nbox := lookN [] ([] : List (Nat × List (Nat × Nat))), take := [], rnil := false, m := 0, fz := true, loops := lookL f6_tab, call := f6_call }
set_option maxRecDepth 100000 in
theorem f6_p35e0 (es_4 : List (List PC)) (full_5 : Bool) (es_6 : List (List PC)) (full_7 : Bool) (n_8 : Int) (n_9 : Int) (b_10 : Bool) (n_11 : Int) (n_12 : Int) (n_13 : Int) (n_14 : Int) (K : TExit → St → Prop) : (f6_p35 es_4 full_5 es_6 full_7 n_8 n_9 b_10 n_11 n_12 n_13 n_14 (fun b0_15 => K .normal ⟨mkS 125 [(7, .w (.one (.p (.sl 1 es_4 full_5)))), (9, .w (.one (.p (.sl 3 es_6 full_7)))), (11, I n_8), (12, I n_9), (13, B b0_15), (14, I n_11)], []⟩)) = execT f6_C (nthC (tails (bodyOf Tryd.f6)) 20) ⟨mkS 125 [(7, .w (.one (.p (.sl 1 es_4 full_5)))), (9, .w (.one (.p (.sl 3 es_6 full_7)))), (11, I n_8), (12, I n_9), (13, B b_10), (14, I n_11), (15, .w (.one (.ptr 0 0 0)))], [.box [.p (pI n_12), .p (pI n_13), .p (pI n_14)]]⟩ (fun e s => K e (normOut f6_C 35 e s)) := by kernel_rfl
noncomputable def f6_p24_mk (es21 : List (List PC)) (full22 : Bool) (es23 : List (List PC)) (full24 : Bool) (n25 : Int) (n26 : Int) (x : Bool × Int) : St := ⟨mkS 125 [(7, .w (.one (.p (.sl 1 es21 full22)))), (9, .w (.one (.p (.sl 3 es23 full24)))), (11, I n25), (12, I n26), (13, B x.1), (14, I x.2)], []⟩
set_option maxRecDepth 100000 in
theorem f6_p24e0 (es_24 : List (List PC)) (full_25 : Bool) (es_26 : List (List PC)) (full_27 : Bool) (n_28 : Int) (n_29 : Int) (b_30 : Bool) (n_31 : Int) (N : St → Prop) (K : TExit → St → Prop) : (f6_p24b0 es_24 full_25 es_26 full_27 n_28 n_29 b_30 n_31 (fun z6 z7 => N (f6_p24_mk es_24 full_25 es_26 full_27 n_28 n_29 (z6, z7))) (fun b0_32 => K .ret ⟨mkS 125 [(6, B b0_32)], []⟩) (fun b1_33 => K (.exit 0) ⟨mkS 125 [(7, .w (.one (.p (.sl 1 es_24 full_25)))), (13, B b1_33)], []⟩)) = execT f6_C (nthC (bodies (bodyOf Tryd.f6)) 0) (f6_p24_mk es_24 full_25 es_26 full_27 n_28 n_29 (b_30, n_31)) (loopK N (normK f6_C 24) fun e s => K e (normOut f6_C 24 e s)) := by kernel_rfl
set_option maxRecDepth 100000 in
theorem f6_p19e0 (n_34 : Int) (es_35 : List (List PC)) (full_36 : Bool) (es_37 : List (List PC)) (full_38 : Bool) (K : TExit → St → Prop) : (f6_p19 n_34 es_35 full_36 es_37 full_38 (fun b0_39 => K .ret ⟨mkS 125 [(6, B b0_39)], []⟩)) = execT f6_C (nthC (tails (bodyOf Tryd.f6)) 9) ⟨mkS 125 [(1, I n_34), (7, .w (.one (.p (.sl 1 es_35 full_36)))), (9, .w (.one (.p (.sl 3 es_37 full_38))))], []⟩ (fun e s => K e (normOut f6_C 19 e s)) := by kernel_rfl
set_option maxHeartbeats 4000000 in
theorem f6_p35_ok : TailOk f6_C (nthC (tails (bodyOf Tryd.f6)) 20) := by
  refine TailOk.of f6_p35L (by kernel_rfl) fun σ K h => ?_
  have hk : joinKey (nthC (tails (bodyOf Tryd.f6)) 20) = 35 := by kernel_rfl
  rw [hk] at h ⊢
  generalize hs : normK f6_C 35 σ = s at h
  obtain ⟨tm, hp⟩ := s
  unfold f6_p35L at h
  dsimp only at h
  obtain ⟨xx, yy, rfl, rfl, h⟩ := getS_elim h
  have q : normK f6_C 35 σ = (⟨mkS 125 [(7, .w (.one (.p (.sl 1 xx.2.1.1 xx.2.1.2)))), (9, .w (.one (.p (.sl 3 xx.2.2.2.1.1 xx.2.2.2.1.2)))), (11, I xx.2.2.2.2.2.1), (12, I xx.2.2.2.2.2.2.1), (13, B xx.2.2.2.2.2.2.2.1), (14, I xx.2.2.2.2.2.2.2.2.1), (15, .w (.one (.ptr 0 0 0)))], [.box [.p (pI yy.1.1), .p (pI yy.1.2.1), .p (pI yy.1.2.2.1)]]⟩ : St) := hs.trans (by kernel_rfl)
  rw [← hs, q, ← f6_p35e0 xx.2.1.1 xx.2.1.2 xx.2.2.2.1.1 xx.2.2.2.1.2 xx.2.2.2.2.2.1 xx.2.2.2.2.2.2.1 xx.2.2.2.2.2.2.2.1 xx.2.2.2.2.2.2.2.2.1 yy.1.1 yy.1.2.1 yy.1.2.2.1 K]
  exact h
set_option maxHeartbeats 4000000 in
theorem f6_p24_ok : LoopOk f6_C (nthC (bodies (bodyOf Tryd.f6)) 0) := by
  refine LoopOk.of f6_p24L (by kernel_rfl) fun σ K h => ?_
  have hk : loopKey (nthC (bodies (bodyOf Tryd.f6)) 0) = 24 := by kernel_rfl
  rw [hk] at h ⊢
  generalize hs : normK f6_C 24 σ = s at h
  obtain ⟨tm, hp⟩ := s
  unfold f6_p24L at h
  dsimp only at h
  obtain ⟨xx, yy, rfl, rfl, h⟩ := getS_elim h
  refine iter_of (f6_p24_mk xx.2.1.1 xx.2.1.2 xx.2.2.2.1.1 xx.2.2.2.1.2 xx.2.2.2.2.2.1 xx.2.2.2.2.2.2.1) (fun x N h => ?_) rounds _ σ (hs.trans (by kernel_rfl)) (LoopP.run h)
  obtain ⟨y0, y1⟩ := x
  rw [← f6_p24e0 xx.2.1.1 xx.2.1.2 xx.2.2.2.1.1 xx.2.2.2.1.2 xx.2.2.2.2.2.1 xx.2.2.2.2.2.2.1 y0 y1 N K]
  exact h
set_option maxHeartbeats 4000000 in
theorem f6_p19_ok : TailOk f6_C (nthC (tails (bodyOf Tryd.f6)) 9) := by
  refine TailOk.of f6_p19L (by kernel_rfl) fun σ K h => ?_
  have hk : joinKey (nthC (tails (bodyOf Tryd.f6)) 9) = 19 := by kernel_rfl
  rw [hk] at h ⊢
  generalize hs : normK f6_C 19 σ = s at h
  obtain ⟨tm, hp⟩ := s
  unfold f6_p19L at h
  dsimp only at h
  obtain ⟨xx, yy, rfl, rfl, h⟩ := getS_elim h
  have q : normK f6_C 19 σ = (⟨mkS 125 [(1, I xx.2.1), (7, .w (.one (.p (.sl 1 xx.2.2.2.1.1 xx.2.2.2.1.2)))), (9, .w (.one (.p (.sl 3 xx.2.2.2.2.2.1.1 xx.2.2.2.2.2.1.2))))], []⟩ : St) := hs.trans (by kernel_rfl)
  rw [← hs, q, ← f6_p19e0 xx.2.1 xx.2.2.2.1.1 xx.2.2.2.1.2 xx.2.2.2.2.2.1.1 xx.2.2.2.2.2.1.2 K]
  exact h
noncomputable def f6_G0 : List TV → List Entry → (TV → List Entry → Prop) → Prop := fun tm hp K => getS [.v (.pagg [.str, .int .i64, .int .i64, .sl 5]), .v (.one (.int .i64)), .v (.one (.int .i64))] [] tm hp fun (xx : ((ByteArray × (Int × (Int × ((List (List PC) × Bool) × Unit)))) × (Int × (Int × Unit)))) (yy : Unit) => f6 xx.1.1 xx.1.2.1 xx.1.2.2.1 xx.1.2.2.2.1.1 xx.1.2.2.2.1.2 xx.2.1 xx.2.2.1 (fun b0_40 => K (B b0_40) [])
set_option maxRecDepth 100000 in
theorem f6_eq (s_41 : ByteArray) (n_42 : Int) (n_43 : Int) (es_44 : List (List PC)) (full_45 : Bool) (n_46 : Int) (n_47 : Int) (K : TV → List Entry → Prop) : (f6_d s_41 n_42 n_43 es_44 full_45 n_46 n_47 (fun b0_40 => K (B b0_40) [])) = funcT f6_C Tryd.f6 [.w (.pagg [pS s_41, pI n_42, pI n_43, .sl 5 es_44 full_45]), I n_46, I n_47] [] K := by kernel_rfl
set_option maxHeartbeats 4000000 in
theorem f6_ok0 : FnOk Tryd.prog glob 6 f6_G0 := by
  refine FnOk.of_text (C := f6_C) tab_ok.ok (Known.add f25_G_ok (Known.add f19_G_ok (Known.add f13_G_ok (Known.add f12_G_ok (Known.none))))) follows_ok (fn := Tryd.f6) (by kernel_rfl) (by kernel_rfl) (by kernel_rfl) (fun c hc => ?_) fun tm hp K h => ?_
  · have e : c = bodyOf Tryd.f6 := Option.some.inj (hc.symm.trans (by kernel_rfl))
    subst e
    exact ⟨LoopsOk.of [nthC (bodies (bodyOf Tryd.f6)) 0] (by kernel_rfl) ⟨f6_p24_ok, trivial⟩, TailsOk.of (tab := f6_tab) rfl [nthC (tails (bodyOf Tryd.f6)) 9, nthC (tails (bodyOf Tryd.f6)) 20] (by kernel_rfl) ⟨f6_p19_ok, f6_p35_ok, trivial⟩⟩
  · unfold f6_G0 at h
    obtain ⟨xx, yy, rfl, rfl, h⟩ := getS_elim h
    have e := (f6_eq xx.1.1 xx.1.2.1 xx.1.2.2.1 xx.1.2.2.2.1.1 xx.1.2.2.2.1.2 xx.2.1 xx.2.2.1 K).trans (show _ = funcT f6_C Tryd.f6 (mkR _ xx) (mkE _ yy) K by kernel_rfl)
    rw [← e]
    exact h.run
noncomputable abbrev f6_G := f6_G0
theorem f6_G_ok : FnOk Tryd.prog glob 6 f6_G := f6_ok0
end Go.Eng.N
set_option linter.unusedVariables false
set_option maxRecDepth 100000
open Go Go.Eng Go.Proofs
namespace Go.Eng.N
/-! ### f8: plenum/plenumlaw39.NotifyOnce -/
noncomputable def f8_p24b0 (es97 : List (List PC)) (full98 : Bool) (n99 : Int) (n100 : Int) (n101 : Int) (s102 : ByteArray) (n103 : Int) (n104 : Int) (es105 : List (List PC)) (full106 : Bool) (n107 : Int) (s108 : ByteArray) (n109 : Int) (n110 : Int) (n111 : Int) (n112 : Int) (n113 : Int) (s114 : ByteArray) (n115 : Int) (n116 : Int) (n117 : Int) (n118 : Int) (N0 : Int → Prop) (k0 : Bool → Prop) (k1 : Unit → Prop) : Prop := bB (decide (n101 < n100)) ((0 ≤ n100 ∧ n100 < ((es97.length : Nat) : Int)) ∧ oS (ext (List.getD es97 (Int.toNat n100) []) 0 1) fun s119 => (0 ≤ n101 ∧ n101 < ((es97.length : Nat) : Int)) ∧ oS (ext (List.getD es97 (Int.toNat n101) []) 0 1) fun s120 => bB (s119.toList == s120.toList) (k0 false) (N0 (w64 (n101 + 1)))) (k1 ())
noncomputable def f8_p24 (es97 : List (List PC)) (full98 : Bool) (n99 : Int) (n100 : Int) (s102 : ByteArray) (n103 : Int) (n104 : Int) (es105 : List (List PC)) (full106 : Bool) (n107 : Int) (s108 : ByteArray) (n109 : Int) (n110 : Int) (n111 : Int) (n112 : Int) (n113 : Int) (s114 : ByteArray) (n115 : Int) (n116 : Int) (n117 : Int) (n118 : Int) (k0 : Bool → Prop) (k1 : Unit → Prop) : Int → Prop := LoopP fun x N => f8_p24b0 es97 full98 n99 n100 x s102 n103 n104 es105 full106 n107 s108 n109 n110 n111 n112 n113 s114 n115 n116 n117 n118 (fun n101 => N n101) k0 k1
noncomputable def f8_p23 (es76 : List (List PC)) (full77 : Bool) (n78 : Int) (n79 : Int) (s80 : ByteArray) (n81 : Int) (n82 : Int) (es83 : List (List PC)) (full84 : Bool) (n85 : Int) (s86 : ByteArray) (n87 : Int) (n88 : Int) (n89 : Int) (n90 : Int) (n91 : Int) (s92 : ByteArray) (n93 : Int) (n94 : Int) (n95 : Int) (n96 : Int) (k0 : Bool → Prop) (k1 : Unit → Prop) : Prop := f8_p24 es76 full77 n78 n79 s80 n81 n82 es83 full84 n85 s86 n87 n88 n89 n90 n91 s92 n93 n94 n95 n96 (fun b121 => k0 b121) (fun (_ : Unit) => k1 ()) 0
noncomputable def f8_p14b0 (es40 : List (List PC)) (full41 : Bool) (n42 : Int) (n43 : Int) (s44 : ByteArray) (n45 : Int) (n46 : Int) (es47 : List (List PC)) (full48 : Bool) (n49 : Int) (s50 : ByteArray) (n51 : Int) (n52 : Int) (n53 : Int) (n54 : Int) (n55 : Int) (s56 : ByteArray) (n57 : Int) (n58 : Int) (n59 : Int) (n60 : Int) (N0 : Int → Prop) (k0 : Bool → Prop) (k1 : Unit → Prop) : Prop := bB (decide (n43 < ((es40.length : Nat) : Int))) ((0 ≤ n43 ∧ n43 < ((es40.length : Nat) : Int)) ∧ cI .i64 (ext (List.getD es40 (Int.toNat n43) []) 1 7) fun n62 r61 => cS r61 fun s64 r63 => cI .i64 r63 fun n66 r65 => cI .i64 r65 fun n68 r67 => cI .i64 r67 fun n70 r69 => cI .i64 r69 fun n72 r71 => cI .i64 r71 fun n74 r73 => nilC r73 <| bB (!((n62 == n49) && ((s64 == s50) && ((n66 == n51) && ((n68 == n52) && ((n70 == n53) && ((n72 == n54) && ((n74 == n55) && true)))))))) (k0 false) ((0 ≤ n43 ∧ n43 < ((es40.length : Nat) : Int)) ∧ oI .i64 (ext (List.getD es40 (Int.toNat n43) []) 8 1) fun n75 => bB (n75 != n45) (k0 false) (f8_p23 es40 full41 n42 n43 s44 n45 n46 es47 full48 n49 s50 n51 n52 n53 n54 n55 s56 n57 n58 n59 n60 (fun b122 => k0 b122) (fun (_ : Unit) => N0 (w64 (n43 + 1)))))) (k1 ())
noncomputable def f8_p14 (es40 : List (List PC)) (full41 : Bool) (n42 : Int) (s44 : ByteArray) (n45 : Int) (n46 : Int) (es47 : List (List PC)) (full48 : Bool) (n49 : Int) (s50 : ByteArray) (n51 : Int) (n52 : Int) (n53 : Int) (n54 : Int) (n55 : Int) (s56 : ByteArray) (n57 : Int) (n58 : Int) (n59 : Int) (n60 : Int) (k0 : Bool → Prop) (k1 : Unit → Prop) : Int → Prop := LoopP fun x N => f8_p14b0 es40 full41 n42 x s44 n45 n46 es47 full48 n49 s50 n51 n52 n53 n54 n55 s56 n57 n58 n59 n60 (fun n43 => N n43) k0 k1
noncomputable def f8_p46b0 (es145 : List (List PC)) (full146 : Bool) (es147 : List (List PC)) (full148 : Bool) (n149 : Int) (s150 : ByteArray) (n151 : Int) (n152 : Int) (n153 : Int) (n154 : Int) (N0 : Int → Prop) (k0 : Bool → Prop) (k1 : Unit → Prop) : Prop := bB (decide (n149 < ((es145.length : Nat) : Int))) ((0 ≤ n149 ∧ n149 < ((es145.length : Nat) : Int)) ∧ cS (ext (List.getD es145 (Int.toNat n149) []) 0 10) fun s156 r155 => cI .i64 r155 fun n158 r157 => cS r157 fun s160 r159 => cI .i64 r159 fun n162 r161 => cI .i64 r161 fun n164 r163 => cI .i64 r163 fun n166 r165 => cI .i64 r165 fun n168 r167 => cI .i64 r167 fun n170 r169 => cI .i64 r169 fun n172 r171 => cB r171 fun b174 r173 => nilC r173 <| (0 ≤ n149 ∧ n149 < ((es147.length : Nat) : Int)) ∧ cS (ext (List.getD es147 (Int.toNat n149) []) 0 10) fun s176 r175 => cI .i64 r175 fun n178 r177 => cS r177 fun s180 r179 => cI .i64 r179 fun n182 r181 => cI .i64 r181 fun n184 r183 => cI .i64 r183 fun n186 r185 => cI .i64 r185 fun n188 r187 => cI .i64 r187 fun n190 r189 => cI .i64 r189 fun n192 r191 => cB r191 fun b194 r193 => nilC r193 <| bB (!((s156 == s176) && ((n158 == n178) && ((s160 == s180) && ((n162 == n182) && ((n164 == n184) && ((n166 == n186) && ((n168 == n188) && ((n170 == n190) && ((n172 == n192) && ((b174 == b194) && true))))))))))) (k0 false) (N0 (w64 (n149 + 1)))) (k1 ())
noncomputable def f8_p46 (es145 : List (List PC)) (full146 : Bool) (es147 : List (List PC)) (full148 : Bool) (s150 : ByteArray) (n151 : Int) (n152 : Int) (n153 : Int) (n154 : Int) (k0 : Bool → Prop) (k1 : Unit → Prop) : Int → Prop := LoopP fun x N => f8_p46b0 es145 full146 es147 full148 x s150 n151 n152 n153 n154 (fun n149 => N n149) k0 k1
noncomputable def f8_p45 (es136 : List (List PC)) (full137 : Bool) (es138 : List (List PC)) (full139 : Bool) (s140 : ByteArray) (n141 : Int) (n142 : Int) (n143 : Int) (n144 : Int) (k0 : Bool → Prop) : Prop := f8_p46 es136 full137 es138 full139 s140 n141 n142 n143 n144 (fun b195 => k0 b195) (fun (_ : Unit) => bB (((es138.length : Nat) : Int) == ((es136.length : Nat) : Int)) (k0 true) ((0 ≤ ((es136.length : Nat) : Int) ∧ ((es136.length : Nat) : Int) < ((es138.length : Nat) : Int)) ∧ oS (ext (List.getD es138 (Int.toNat ((es136.length : Nat) : Int)) []) 0 1) fun s196 => k0 (s196.toList == s140.toList))) 0
noncomputable def f8_p41 (es127 : List (List PC)) (full128 : Bool) (es129 : List (List PC)) (full130 : Bool) (s131 : ByteArray) (n132 : Int) (n133 : Int) (n134 : Int) (n135 : Int) (k0 : Bool → Prop) : Prop := bB (decide (((es129.length : Nat) : Int) < ((es127.length : Nat) : Int))) (k0 false) (bB (decide (((es129.length : Nat) : Int) > (w64 (((es127.length : Nat) : Int) + 1)))) (k0 false) (f8_p45 es127 full128 es129 full130 s131 n132 n133 n134 n135 (fun b197 => k0 b197)))
noncomputable def f8_p11 (s20 : ByteArray) (n21 : Int) (n22 : Int) (es23 : List (List PC)) (full24 : Bool) (n25 : Int) (s26 : ByteArray) (n27 : Int) (n28 : Int) (n29 : Int) (n30 : Int) (n31 : Int) (s32 : ByteArray) (n33 : Int) (n34 : Int) (n35 : Int) (n36 : Int) (k0 : Bool → Prop) : Prop := f21 s20 n21 n22 es23 full24 n25 s26 n27 n28 n29 n30 n31 (fun es37 full38 n39 => f8_p14 es37 full38 n39 s20 n21 n22 es23 full24 n25 s26 n27 n28 n29 n30 n31 s32 n33 n34 n35 n36 (fun b123 => k0 b123) (fun (_ : Unit) => ((0 = 0 ∧ (0 + es23.length) * 48 ≤ 2 ^ 46 ∧ (0 + es23.length) ≤ 2 ^ 46 ∧ (((0 + (0 + es23.length)) = (List.drop 0 [] ++ es23).length ∧ ((0 + es23.length) + 1) * 48 ≤ 2 ^ 46 ∧ ((0 + es23.length) + 1) ≤ 2 ^ 46 ∧ f21 s20 n21 n22 (List.take ((0 + es23.length) + 1) (List.drop 0 (List.drop 0 (List.drop 0 [] ++ es23) ++ [[pS s32, pI n33, pI n34, pI n35, pI n36]]))) false n25 s26 n27 n28 n29 n30 n31 (fun es124 full125 n126 => bB (n39 != 0) (k0 true) (bB (n126 != 0) (k0 true) (f8_p41 es37 full38 es124 full125 s32 n33 n34 n35 n36 (fun b198 => k0 b198))))) ∧ ((0 + (0 + es23.length)) = (List.drop 0 [] ++ es23).length ∧ ((0 + es23.length) + 1) * 48 ≤ 2 ^ 46 ∧ ((0 + es23.length) + 1) ≤ 2 ^ 46 ∧ f21 s20 n21 n22 (List.take ((0 + es23.length) + 1) (List.drop 0 (List.drop 0 (List.drop 0 [] ++ es23) ++ [[pS s32, pI n33, pI n34, pI n35, pI n36]]))) false n25 s26 n27 n28 n29 n30 n31 (fun es199 full200 n201 => bB (n39 != 0) (k0 true) (bB (n201 != 0) (k0 true) (f8_p41 es37 full38 es199 full200 s32 n33 n34 n35 n36 (fun b202 => k0 b202)))))) ∧ ((0 + (0 + es23.length)) = (List.drop 0 [] ++ es23).length ∧ ((0 + es23.length) + 1) * 48 ≤ 2 ^ 46 ∧ ((0 + es23.length) + 1) ≤ 2 ^ 46 ∧ f21 s20 n21 n22 (List.take ((0 + es23.length) + 1) (List.drop 0 (List.drop 0 (List.drop 0 [] ++ es23) ++ [[pS s32, pI n33, pI n34, pI n35, pI n36]]))) false n25 s26 n27 n28 n29 n30 n31 (fun es203 full204 n205 => bB (n39 != 0) (k0 true) (bB (n205 != 0) (k0 true) (f8_p41 es37 full38 es203 full204 s32 n33 n34 n35 n36 (fun b206 => k0 b206)))))) ∧ ((0 = 0 ∧ (0 + es23.length) * 48 ≤ 2 ^ 46 ∧ (0 + es23.length) ≤ 2 ^ 46 ∧ ((0 + (0 + es23.length)) = (List.drop 0 [] ++ es23).length ∧ ((0 + es23.length) + 1) * 48 ≤ 2 ^ 46 ∧ ((0 + es23.length) + 1) ≤ 2 ^ 46 ∧ f21 s20 n21 n22 (List.take ((0 + es23.length) + 1) (List.drop 0 (List.drop 0 (List.drop 0 [] ++ es23) ++ [[pS s32, pI n33, pI n34, pI n35, pI n36]]))) false n25 s26 n27 n28 n29 n30 n31 (fun es207 full208 n209 => bB (n39 != 0) (k0 true) (bB (n209 != 0) (k0 true) (f8_p41 es37 full38 es207 full208 s32 n33 n34 n35 n36 (fun b210 => k0 b210))))) ∧ ((0 + (0 + es23.length)) = (List.drop 0 [] ++ es23).length ∧ ((0 + es23.length) + 1) * 48 ≤ 2 ^ 46 ∧ ((0 + es23.length) + 1) ≤ 2 ^ 46 ∧ f21 s20 n21 n22 (List.take ((0 + es23.length) + 1) (List.drop 0 (List.drop 0 (List.drop 0 [] ++ es23) ++ [[pS s32, pI n33, pI n34, pI n35, pI n36]]))) false n25 s26 n27 n28 n29 n30 n31 (fun es211 full212 n213 => bB (n39 != 0) (k0 true) (bB (n213 != 0) (k0 true) (f8_p41 es37 full38 es211 full212 s32 n33 n34 n35 n36 (fun b214 => k0 b214)))))) ∧ (0 = 0 ∧ (0 + es23.length) * 48 ≤ 2 ^ 46 ∧ (0 + es23.length) ≤ 2 ^ 46 ∧ (0 + (0 + es23.length)) = (List.drop 0 [] ++ es23).length ∧ ((0 + es23.length) + 1) * 48 ≤ 2 ^ 46 ∧ ((0 + es23.length) + 1) ≤ 2 ^ 46 ∧ f21 s20 n21 n22 (List.take ((0 + es23.length) + 1) (List.drop 0 (List.drop 0 (List.drop 0 [] ++ es23) ++ [[pS s32, pI n33, pI n34, pI n35, pI n36]]))) false n25 s26 n27 n28 n29 n30 n31 (fun es215 full216 n217 => bB (n39 != 0) (k0 true) (bB (n217 != 0) (k0 true) (f8_p41 es37 full38 es215 full216 s32 n33 n34 n35 n36 (fun b218 => k0 b218)))))) ∧ ((0 = 0 ∧ (0 + es23.length) * 48 ≤ 2 ^ 46 ∧ (0 + es23.length) ≤ 2 ^ 46 ∧ (0 + (0 + es23.length)) = (List.drop 0 [] ++ es23).length ∧ ((0 + es23.length) + 1) * 48 ≤ 2 ^ 46 ∧ ((0 + es23.length) + 1) ≤ 2 ^ 46 ∧ f21 s20 n21 n22 (List.take ((0 + es23.length) + 1) (List.drop 0 (List.drop 0 (List.drop 0 [] ++ es23) ++ [[pS s32, pI n33, pI n34, pI n35, pI n36]]))) false n25 s26 n27 n28 n29 n30 n31 (fun es219 full220 n221 => bB (n39 != 0) (k0 true) (bB (n221 != 0) (k0 true) (f8_p41 es37 full38 es219 full220 s32 n33 n34 n35 n36 (fun b222 => k0 b222))))) ∧ (0 = 0 ∧ (0 + es23.length) * 48 ≤ 2 ^ 46 ∧ (0 + es23.length) ≤ 2 ^ 46 ∧ (0 + (0 + es23.length)) = (List.drop 0 [] ++ es23).length ∧ ((0 + es23.length) + 1) * 48 ≤ 2 ^ 46 ∧ ((0 + es23.length) + 1) ≤ 2 ^ 46 ∧ f21 s20 n21 n22 (List.take ((0 + es23.length) + 1) (List.drop 0 (List.drop 0 (List.drop 0 [] ++ es23) ++ [[pS s32, pI n33, pI n34, pI n35, pI n36]]))) false n25 s26 n27 n28 n29 n30 n31 (fun es223 full224 n225 => bB (n39 != 0) (k0 true) (bB (n225 != 0) (k0 true) (f8_p41 es37 full38 es223 full224 s32 n33 n34 n35 n36 (fun b226 => k0 b226))))))) ∧ (((0 = 0 ∧ (0 + es23.length) * 48 ≤ 2 ^ 46 ∧ (0 + es23.length) ≤ 2 ^ 46 ∧ ((0 + (0 + es23.length)) = (List.drop 0 [] ++ es23).length ∧ ((0 + es23.length) + 1) * 48 ≤ 2 ^ 46 ∧ ((0 + es23.length) + 1) ≤ 2 ^ 46 ∧ f21 s20 n21 n22 (List.take ((0 + es23.length) + 1) (List.drop 0 (List.drop 0 (List.drop 0 [] ++ es23) ++ [[pS s32, pI n33, pI n34, pI n35, pI n36]]))) false n25 s26 n27 n28 n29 n30 n31 (fun es227 full228 n229 => bB (n39 != 0) (k0 true) (bB (n229 != 0) (k0 true) (f8_p41 es37 full38 es227 full228 s32 n33 n34 n35 n36 (fun b230 => k0 b230))))) ∧ ((0 + (0 + es23.length)) = (List.drop 0 [] ++ es23).length ∧ ((0 + es23.length) + 1) * 48 ≤ 2 ^ 46 ∧ ((0 + es23.length) + 1) ≤ 2 ^ 46 ∧ f21 s20 n21 n22 (List.take ((0 + es23.length) + 1) (List.drop 0 (List.drop 0 (List.drop 0 [] ++ es23) ++ [[pS s32, pI n33, pI n34, pI n35, pI n36]]))) false n25 s26 n27 n28 n29 n30 n31 (fun es231 full232 n233 => bB (n39 != 0) (k0 true) (bB (n233 != 0) (k0 true) (f8_p41 es37 full38 es231 full232 s32 n33 n34 n35 n36 (fun b234 => k0 b234)))))) ∧ (0 = 0 ∧ (0 + es23.length) * 48 ≤ 2 ^ 46 ∧ (0 + es23.length) ≤ 2 ^ 46 ∧ (0 + (0 + es23.length)) = (List.drop 0 [] ++ es23).length ∧ ((0 + es23.length) + 1) * 48 ≤ 2 ^ 46 ∧ ((0 + es23.length) + 1) ≤ 2 ^ 46 ∧ f21 s20 n21 n22 (List.take ((0 + es23.length) + 1) (List.drop 0 (List.drop 0 (List.drop 0 [] ++ es23) ++ [[pS s32, pI n33, pI n34, pI n35, pI n36]]))) false n25 s26 n27 n28 n29 n30 n31 (fun es235 full236 n237 => bB (n39 != 0) (k0 true) (bB (n237 != 0) (k0 true) (f8_p41 es37 full38 es235 full236 s32 n33 n34 n35 n36 (fun b238 => k0 b238)))))) ∧ (0 = 0 ∧ (0 + es23.length) * 48 ≤ 2 ^ 46 ∧ (0 + es23.length) ≤ 2 ^ 46 ∧ (0 + (0 + es23.length)) = (List.drop 0 [] ++ es23).length ∧ ((0 + es23.length) + 1) * 48 ≤ 2 ^ 46 ∧ ((0 + es23.length) + 1) ≤ 2 ^ 46 ∧ f21 s20 n21 n22 (List.take ((0 + es23.length) + 1) (List.drop 0 (List.drop 0 (List.drop 0 [] ++ es23) ++ [[pS s32, pI n33, pI n34, pI n35, pI n36]]))) false n25 s26 n27 n28 n29 n30 n31 (fun es239 full240 n241 => bB (n39 != 0) (k0 true) (bB (n241 != 0) (k0 true) (f8_p41 es37 full38 es239 full240 s32 n33 n34 n35 n36 (fun b242 => k0 b242)))))) ∧ (((0 = 0 ∧ (0 + es23.length) * 48 ≤ 2 ^ 46 ∧ (0 + es23.length) ≤ 2 ^ 46 ∧ (0 + (0 + es23.length)) = (List.drop 0 [] ++ es23).length ∧ ((0 + es23.length) + 1) * 48 ≤ 2 ^ 46 ∧ ((0 + es23.length) + 1) ≤ 2 ^ 46 ∧ f21 s20 n21 n22 (List.take ((0 + es23.length) + 1) (List.drop 0 (List.drop 0 (List.drop 0 [] ++ es23) ++ [[pS s32, pI n33, pI n34, pI n35, pI n36]]))) false n25 s26 n27 n28 n29 n30 n31 (fun es243 full244 n245 => bB (n39 != 0) (k0 true) (bB (n245 != 0) (k0 true) (f8_p41 es37 full38 es243 full244 s32 n33 n34 n35 n36 (fun b246 => k0 b246))))) ∧ (0 = 0 ∧ (0 + es23.length) * 48 ≤ 2 ^ 46 ∧ (0 + es23.length) ≤ 2 ^ 46 ∧ (0 + (0 + es23.length)) = (List.drop 0 [] ++ es23).length ∧ ((0 + es23.length) + 1) * 48 ≤ 2 ^ 46 ∧ ((0 + es23.length) + 1) ≤ 2 ^ 46 ∧ f21 s20 n21 n22 (List.take ((0 + es23.length) + 1) (List.drop 0 (List.drop 0 (List.drop 0 [] ++ es23) ++ [[pS s32, pI n33, pI n34, pI n35, pI n36]]))) false n25 s26 n27 n28 n29 n30 n31 (fun es247 full248 n249 => bB (n39 != 0) (k0 true) (bB (n249 != 0) (k0 true) (f8_p41 es37 full38 es247 full248 s32 n33 n34 n35 n36 (fun b250 => k0 b250)))))) ∧ (0 = 0 ∧ (0 + es23.length) * 48 ≤ 2 ^ 46 ∧ (0 + es23.length) ≤ 2 ^ 46 ∧ (0 + (0 + es23.length)) = (List.drop 0 [] ++ es23).length ∧ ((0 + es23.length) + 1) * 48 ≤ 2 ^ 46 ∧ ((0 + es23.length) + 1) ≤ 2 ^ 46 ∧ f21 s20 n21 n22 (List.take ((0 + es23.length) + 1) (List.drop 0 (List.drop 0 (List.drop 0 [] ++ es23) ++ [[pS s32, pI n33, pI n34, pI n35, pI n36]]))) false n25 s26 n27 n28 n29 n30 n31 (fun es251 full252 n253 => bB (n39 != 0) (k0 true) (bB (n253 != 0) (k0 true) (f8_p41 es37 full38 es251 full252 s32 n33 n34 n35 n36 (fun b254 => k0 b254))))))) 0)
noncomputable def f8_d (s1 : ByteArray) (n2 : Int) (n3 : Int) (es4 : List (List PC)) (full5 : Bool) (n6 : Int) (s7 : ByteArray) (n8 : Int) (n9 : Int) (n10 : Int) (n11 : Int) (n12 : Int) (s13 : ByteArray) (n14 : Int) (n15 : Int) (n16 : Int) (n17 : Int) (k0 : Bool → Prop) : Prop := f12 (fun b18 => bB (!b18) (k0 false) (f13 s1 n2 n3 es4 full5 (fun b19 => bB (!b19) (k0 true) (bB (decide (((es4.length : Nat) : Int) > 7)) (k0 true) (bB (decide (((s7.size : Nat) : Int) > 100)) (k0 true) (bB (decide (((s13.size : Nat) : Int) > 60)) (k0 true) (f8_p11 s1 n2 n3 es4 full5 n6 s7 n8 n9 n10 n11 n12 s13 n14 n15 n16 n17 (fun b255 => k0 b255))))))))
structure f8 (s1 : ByteArray) (n2 : Int) (n3 : Int) (es4 : List (List PC)) (full5 : Bool) (n6 : Int) (s7 : ByteArray) (n8 : Int) (n9 : Int) (n10 : Int) (n11 : Int) (n12 : Int) (s13 : ByteArray) (n14 : Int) (n15 : Int) (n16 : Int) (n17 : Int) (k0 : Bool → Prop) : Prop where
  run : f8_d s1 n2 n3 es4 full5 n6 s7 n8 n9 n10 n11 n12 s13 n14 n15 n16 n17 k0
noncomputable def f8_p24L : Told := fun s K => match s with
  | ⟨tm, hp⟩ => getS [.skip 3, .v (.one (.ptr 0 0 0)), .v (.one (.ptr 1 0 0)), .v (.one (.ptr 2 0 0)), .skip 1, .v (.one (.sl 10)), .v (.one (.int .i64)), .v (.one (.int .i64)), .v (.one (.int .i64)), .skip 142] [.box [.str, .int .i64, .int .i64, .sl 5], .box [.int .i64, .str, .int .i64, .int .i64, .int .i64, .int .i64, .int .i64], .box [.str, .int .i64, .int .i64, .int .i64, .int .i64]] tm hp fun (xx : (Unit × (Unit × (Unit × (Unit × (Unit × ((List (List PC) × Bool) × (Int × (Int × (Int × (Unit × Unit))))))))))) (yy : ((ByteArray × (Int × (Int × ((List (List PC) × Bool) × Unit)))) × ((Int × (ByteArray × (Int × (Int × (Int × (Int × (Int × Unit))))))) × ((ByteArray × (Int × (Int × (Int × (Int × Unit))))) × Unit)))) => f8_p24 xx.2.2.2.2.2.1.1 xx.2.2.2.2.2.1.2 xx.2.2.2.2.2.2.1 xx.2.2.2.2.2.2.2.1 yy.1.1 yy.1.2.1 yy.1.2.2.1 yy.1.2.2.2.1.1 yy.1.2.2.2.1.2 yy.2.1.1 yy.2.1.2.1 yy.2.1.2.2.1 yy.2.1.2.2.2.1 yy.2.1.2.2.2.2.1 yy.2.1.2.2.2.2.2.1 yy.2.1.2.2.2.2.2.2.1 yy.2.2.1.1 yy.2.2.1.2.1 yy.2.2.1.2.2.1 yy.2.2.1.2.2.2.1 yy.2.2.1.2.2.2.2.1 (fun b0_0 => K .ret ⟨mkS 153 [(6, B b0_0)], []⟩) (fun (_ : Unit) => K (.exit 2) ⟨mkS 153 [(3, .w (.one (.ptr 0 0 0))), (4, .w (.one (.ptr 1 0 0))), (5, .w (.one (.ptr 2 0 0))), (7, .w (.one (.p (.sl 10 xx.2.2.2.2.2.1.1 xx.2.2.2.2.2.1.2)))), (8, I xx.2.2.2.2.2.2.1), (9, I xx.2.2.2.2.2.2.2.1)], [.box [.p (pS yy.1.1), .p (pI yy.1.2.1), .p (pI yy.1.2.2.1), .p (.sl 5 yy.1.2.2.2.1.1 yy.1.2.2.2.1.2)], .box [.p (pI yy.2.1.1), .p (pS yy.2.1.2.1), .p (pI yy.2.1.2.2.1), .p (pI yy.2.1.2.2.2.1), .p (pI yy.2.1.2.2.2.2.1), .p (pI yy.2.1.2.2.2.2.2.1), .p (pI yy.2.1.2.2.2.2.2.2.1)], .box [.p (pS yy.2.2.1.1), .p (pI yy.2.2.1.2.1), .p (pI yy.2.2.1.2.2.1), .p (pI yy.2.2.1.2.2.2.1), .p (pI yy.2.2.1.2.2.2.2.1)]]⟩) xx.2.2.2.2.2.2.2.2.1
noncomputable def f8_p23L : Told := fun s K => match s with
  | ⟨tm, hp⟩ => getS [.skip 3, .v (.one (.ptr 0 0 0)), .v (.one (.ptr 1 0 0)), .v (.one (.ptr 2 0 0)), .skip 1, .v (.one (.sl 10)), .v (.one (.int .i64)), .v (.one (.int .i64)), .skip 143] [.box [.str, .int .i64, .int .i64, .sl 5], .box [.int .i64, .str, .int .i64, .int .i64, .int .i64, .int .i64, .int .i64], .box [.str, .int .i64, .int .i64, .int .i64, .int .i64]] tm hp fun (xx : (Unit × (Unit × (Unit × (Unit × (Unit × ((List (List PC) × Bool) × (Int × (Int × (Unit × Unit)))))))))) (yy : ((ByteArray × (Int × (Int × ((List (List PC) × Bool) × Unit)))) × ((Int × (ByteArray × (Int × (Int × (Int × (Int × (Int × Unit))))))) × ((ByteArray × (Int × (Int × (Int × (Int × Unit))))) × Unit)))) => f8_p23 xx.2.2.2.2.2.1.1 xx.2.2.2.2.2.1.2 xx.2.2.2.2.2.2.1 xx.2.2.2.2.2.2.2.1 yy.1.1 yy.1.2.1 yy.1.2.2.1 yy.1.2.2.2.1.1 yy.1.2.2.2.1.2 yy.2.1.1 yy.2.1.2.1 yy.2.1.2.2.1 yy.2.1.2.2.2.1 yy.2.1.2.2.2.2.1 yy.2.1.2.2.2.2.2.1 yy.2.1.2.2.2.2.2.2.1 yy.2.2.1.1 yy.2.2.1.2.1 yy.2.2.1.2.2.1 yy.2.2.1.2.2.2.1 yy.2.2.1.2.2.2.2.1 (fun b0_1 => K .ret ⟨mkS 153 [(6, B b0_1)], []⟩) (fun (_ : Unit) => K .normal ⟨mkS 153 [(3, .w (.one (.ptr 0 0 0))), (4, .w (.one (.ptr 1 0 0))), (5, .w (.one (.ptr 2 0 0))), (7, .w (.one (.p (.sl 10 xx.2.2.2.2.2.1.1 xx.2.2.2.2.2.1.2)))), (8, I xx.2.2.2.2.2.2.1), (9, I xx.2.2.2.2.2.2.2.1)], [.box [.p (pS yy.1.1), .p (pI yy.1.2.1), .p (pI yy.1.2.2.1), .p (.sl 5 yy.1.2.2.2.1.1 yy.1.2.2.2.1.2)], .box [.p (pI yy.2.1.1), .p (pS yy.2.1.2.1), .p (pI yy.2.1.2.2.1), .p (pI yy.2.1.2.2.2.1), .p (pI yy.2.1.2.2.2.2.1), .p (pI yy.2.1.2.2.2.2.2.1), .p (pI yy.2.1.2.2.2.2.2.2.1)], .box [.p (pS yy.2.2.1.1), .p (pI yy.2.2.1.2.1), .p (pI yy.2.2.1.2.2.1), .p (pI yy.2.2.1.2.2.2.1), .p (pI yy.2.2.1.2.2.2.2.1)]]⟩)
noncomputable def f8_p14L : Told := fun s K => match s with
  | ⟨tm, hp⟩ => getS [.skip 3, .v (.one (.ptr 0 0 0)), .v (.one (.ptr 1 0 0)), .v (.one (.ptr 2 0 0)), .skip 1, .v (.one (.sl 10)), .v (.one (.int .i64)), .v (.one (.int .i64)), .skip 143] [.box [.str, .int .i64, .int .i64, .sl 5], .box [.int .i64, .str, .int .i64, .int .i64, .int .i64, .int .i64, .int .i64], .box [.str, .int .i64, .int .i64, .int .i64, .int .i64]] tm hp fun (xx : (Unit × (Unit × (Unit × (Unit × (Unit × ((List (List PC) × Bool) × (Int × (Int × (Unit × Unit)))))))))) (yy : ((ByteArray × (Int × (Int × ((List (List PC) × Bool) × Unit)))) × ((Int × (ByteArray × (Int × (Int × (Int × (Int × (Int × Unit))))))) × ((ByteArray × (Int × (Int × (Int × (Int × Unit))))) × Unit)))) => f8_p14 xx.2.2.2.2.2.1.1 xx.2.2.2.2.2.1.2 xx.2.2.2.2.2.2.1 yy.1.1 yy.1.2.1 yy.1.2.2.1 yy.1.2.2.2.1.1 yy.1.2.2.2.1.2 yy.2.1.1 yy.2.1.2.1 yy.2.1.2.2.1 yy.2.1.2.2.2.1 yy.2.1.2.2.2.2.1 yy.2.1.2.2.2.2.2.1 yy.2.1.2.2.2.2.2.2.1 yy.2.2.1.1 yy.2.2.1.2.1 yy.2.2.1.2.2.1 yy.2.2.1.2.2.2.1 yy.2.2.1.2.2.2.2.1 (fun b0_2 => K .ret ⟨mkS 153 [(6, B b0_2)], []⟩) (fun (_ : Unit) => K (.exit 0) ⟨mkS 153 [(3, .w (.one (.ptr 0 0 0))), (4, .w (.one (.ptr 1 0 0))), (5, .w (.one (.ptr 2 0 0))), (7, .w (.one (.p (.sl 10 xx.2.2.2.2.2.1.1 xx.2.2.2.2.2.1.2)))), (8, I xx.2.2.2.2.2.2.1)], [.box [.p (pS yy.1.1), .p (pI yy.1.2.1), .p (pI yy.1.2.2.1), .p (.sl 5 yy.1.2.2.2.1.1 yy.1.2.2.2.1.2)], .box [.p (pI yy.2.1.1), .p (pS yy.2.1.2.1), .p (pI yy.2.1.2.2.1), .p (pI yy.2.1.2.2.2.1), .p (pI yy.2.1.2.2.2.2.1), .p (pI yy.2.1.2.2.2.2.2.1), .p (pI yy.2.1.2.2.2.2.2.2.1)], .box [.p (pS yy.2.2.1.1), .p (pI yy.2.2.1.2.1), .p (pI yy.2.2.1.2.2.1), .p (pI yy.2.2.1.2.2.2.1), .p (pI yy.2.2.1.2.2.2.2.1)]]⟩) xx.2.2.2.2.2.2.2.1
noncomputable def f8_p46L : Told := fun s K => match s with
  | ⟨tm, hp⟩ => getS [.skip 5, .v (.one (.ptr 0 0 0)), .skip 1, .v (.one (.sl 10)), .skip 4, .v (.one (.sl 10)), .skip 1, .v (.one (.int .i64)), .skip 138] [.box [.str, .int .i64, .int .i64, .int .i64, .int .i64]] tm hp fun (xx : (Unit × (Unit × (Unit × ((List (List PC) × Bool) × (Unit × ((List (List PC) × Bool) × (Unit × (Int × (Unit × Unit)))))))))) (yy : ((ByteArray × (Int × (Int × (Int × (Int × Unit))))) × Unit)) => f8_p46 xx.2.2.2.1.1 xx.2.2.2.1.2 xx.2.2.2.2.2.1.1 xx.2.2.2.2.2.1.2 yy.1.1 yy.1.2.1 yy.1.2.2.1 yy.1.2.2.2.1 yy.1.2.2.2.2.1 (fun b0_3 => K .ret ⟨mkS 153 [(6, B b0_3)], []⟩) (fun (_ : Unit) => K (.exit 4) ⟨mkS 153 [(5, .w (.one (.ptr 0 0 0))), (7, .w (.one (.p (.sl 10 xx.2.2.2.1.1 xx.2.2.2.1.2)))), (12, .w (.one (.p (.sl 10 xx.2.2.2.2.2.1.1 xx.2.2.2.2.2.1.2))))], [.box [.p (pS yy.1.1), .p (pI yy.1.2.1), .p (pI yy.1.2.2.1), .p (pI yy.1.2.2.2.1), .p (pI yy.1.2.2.2.2.1)]]⟩) xx.2.2.2.2.2.2.2.1
noncomputable def f8_p45L : Told := fun s K => match s with
  | ⟨tm, hp⟩ => getS [.skip 5, .v (.one (.ptr 0 0 0)), .skip 1, .v (.one (.sl 10)), .skip 4, .v (.one (.sl 10)), .skip 140] [.box [.str, .int .i64, .int .i64, .int .i64, .int .i64]] tm hp fun (xx : (Unit × (Unit × (Unit × ((List (List PC) × Bool) × (Unit × ((List (List PC) × Bool) × (Unit × Unit)))))))) (yy : ((ByteArray × (Int × (Int × (Int × (Int × Unit))))) × Unit)) => f8_p45 xx.2.2.2.1.1 xx.2.2.2.1.2 xx.2.2.2.2.2.1.1 xx.2.2.2.2.2.1.2 yy.1.1 yy.1.2.1 yy.1.2.2.1 yy.1.2.2.2.1 yy.1.2.2.2.2.1 (fun b0_4 => K .ret ⟨mkS 153 [(6, B b0_4)], []⟩)
noncomputable def f8_p41L : Told := fun s K => match s with
  | ⟨tm, hp⟩ => getS [.skip 5, .v (.one (.ptr 0 0 0)), .skip 1, .v (.one (.sl 10)), .skip 4, .v (.one (.sl 10)), .skip 140] [.box [.str, .int .i64, .int .i64, .int .i64, .int .i64]] tm hp fun (xx : (Unit × (Unit × (Unit × ((List (List PC) × Bool) × (Unit × ((List (List PC) × Bool) × (Unit × Unit)))))))) (yy : ((ByteArray × (Int × (Int × (Int × (Int × Unit))))) × Unit)) => f8_p41 xx.2.2.2.1.1 xx.2.2.2.1.2 xx.2.2.2.2.2.1.1 xx.2.2.2.2.2.1.2 yy.1.1 yy.1.2.1 yy.1.2.2.1 yy.1.2.2.2.1 yy.1.2.2.2.2.1 (fun b0_5 => K .ret ⟨mkS 153 [(6, B b0_5)], []⟩)
noncomputable def f8_p11L : Told := fun s K => match s with
  | ⟨tm, hp⟩ => getS [.skip 3, .v (.one (.ptr 0 0 0)), .v (.one (.ptr 1 0 0)), .v (.one (.ptr 2 0 0)), .skip 147] [.box [.str, .int .i64, .int .i64, .sl 5], .box [.int .i64, .str, .int .i64, .int .i64, .int .i64, .int .i64, .int .i64], .box [.str, .int .i64, .int .i64, .int .i64, .int .i64]] tm hp fun (xx : (Unit × (Unit × (Unit × (Unit × (Unit × Unit)))))) (yy : ((ByteArray × (Int × (Int × ((List (List PC) × Bool) × Unit)))) × ((Int × (ByteArray × (Int × (Int × (Int × (Int × (Int × Unit))))))) × ((ByteArray × (Int × (Int × (Int × (Int × Unit))))) × Unit)))) => f8_p11 yy.1.1 yy.1.2.1 yy.1.2.2.1 yy.1.2.2.2.1.1 yy.1.2.2.2.1.2 yy.2.1.1 yy.2.1.2.1 yy.2.1.2.2.1 yy.2.1.2.2.2.1 yy.2.1.2.2.2.2.1 yy.2.1.2.2.2.2.2.1 yy.2.1.2.2.2.2.2.2.1 yy.2.2.1.1 yy.2.2.1.2.1 yy.2.2.1.2.2.1 yy.2.2.1.2.2.2.1 yy.2.2.1.2.2.2.2.1 (fun b0_6 => K .ret ⟨mkS 153 [(6, B b0_6)], []⟩)
noncomputable def f8_tab : List (Nat × Told) := [(24, f8_p24L), (23, f8_p23L), (14, f8_p14L), (46, f8_p46L), (45, f8_p45L), (41, f8_p41L), (11, f8_p11L)]
noncomputable def f8_call : FuncId → List TV → List Entry → (TV → List Entry → Prop) → Prop := addCall 21 f21_G (addCall 13 f13_G (addCall 12 f12_G (noCalls)))
noncomputable def f8_C : Ctx := { ty := tyOf tab, glob := glob, byRef := byRef, keep := fun k i => lookN [] (lookN [] ([(24, [(0, [3, 4, 5, 7, 8, 9, 10]), (2, [6]), (3, [3, 4, 5, 7, 8]), (4, [3, 4, 5, 7, 8, 9]), (5, [3, 4, 5, 7, 8, 9])]), (23, [(0, [3, 4, 5, 7, 8, 9]), (1, [3, 4, 5, 7, 8, 9]), (2, [6]), (3, [3, 4, 5, 7, 8]), (4, [3, 4, 5, 7, 8, 9])]), (14, [(0, [3, 4, 5, 7, 8, 9]), (2, [6]), (3, [3, 4, 5, 7, 8])]), (46, [(0, [5, 7, 12, 14]), (2, [6]), (7, [5, 7, 12])]), (45, [(0, [5, 7, 12]), (1, [6]), (2, [6])]), (41, [(0, [5, 7, 12]), (1, [6]), (2, [6])]), (11, [(0, [3, 4, 5]), (1, [6]), (2, [6])])] : List (Nat × List (Nat × List Nat))) k) i, late := lookN [] ([] : List (Nat × List Nat)), nref := lookN [] ([] : List (Nat × List Nat)), nbox := lookN [] ([] : List (Nat × List (Nat × Nat))), take := [], rnil := false, m := 0, fz := true, loops := lookL f8_tab, call := f8_call }
noncomputable def f8_p24_mk (es97 : List (List PC)) (full98 : Bool) (n99 : Int) (n100 : Int) (s102 : ByteArray) (n103 : Int) (n104 : Int) (es105 : List (List PC)) (full106 : Bool) (n107 : Int) (s108 : ByteArray) (n109 : Int) (n110 : Int) (n111 : Int) (n112 : Int) (n113 : Int) (s114 : ByteArray) (n115 : Int) (n116 : Int) (n117 : Int) (n118 : Int) (x : Int) : St := ⟨mkS 153 [(3, .w (.one (.ptr 0 0 0))), (4, .w (.one (.ptr 1 0 0))), (5, .w (.one (.ptr 2 0 0))), (7, .w (.one (.p (.sl 10 es97 full98)))), (8, I n99), (9, I n100), (10, I x)], [.box [.p (pS s102), .p (pI n103), .p (pI n104), .p (.sl 5 es105 full106)], .box [.p (pI n107), .p (pS s108), .p (pI n109), .p (pI n110), .p (pI n111), .p (pI n112), .p (pI n113)], .box [.p (pS s114), .p (pI n115), .p (pI n116), .p (pI n117), .p (pI n118)]]⟩
set_option maxRecDepth 100000 in
theorem f8_p24e0 (es_29 : List (List PC)) (full_30 : Bool) (n_31 : Int) (n_32 : Int) (n_33 : Int) (s_34 : ByteArray) (n_35 : Int) (n_36 : Int) (es_37 : List (List PC)) (full_38 : Bool) (n_39 : Int) (s_40 : ByteArray) (n_41 : Int) (n_42 : Int) (n_43 : Int) (n_44 : Int) (n_45 : Int) (s_46 : ByteArray) (n_47 : Int) (n_48 : Int) (n_49 : Int) (n_50 : Int) (N : St → Prop) (K : TExit → St → Prop) : (f8_p24b0 es_29 full_30 n_31 n_32 n_33 s_34 n_35 n_36 es_37 full_38 n_39 s_40 n_41 n_42 n_43 n_44 n_45 s_46 n_47 n_48 n_49 n_50 (fun z4 => N (f8_p24_mk es_29 full_30 n_31 n_32 s_34 n_35 n_36 es_37 full_38 n_39 s_40 n_41 n_42 n_43 n_44 n_45 s_46 n_47 n_48 n_49 n_50 z4)) (fun b0_51 => K .ret ⟨mkS 153 [(6, B b0_51)], []⟩) (fun (_ : Unit) => K (.exit 2) ⟨mkS 153 [(3, .w (.one (.ptr 0 0 0))), (4, .w (.one (.ptr 1 0 0))), (5, .w (.one (.ptr 2 0 0))), (7, .w (.one (.p (.sl 10 es_29 full_30)))), (8, I n_31), (9, I n_32)], [.box [.p (pS s_34), .p (pI n_35), .p (pI n_36), .p (.sl 5 es_37 full_38)], .box [.p (pI n_39), .p (pS s_40), .p (pI n_41), .p (pI n_42), .p (pI n_43), .p (pI n_44), .p (pI n_45)], .box [.p (pS s_46), .p (pI n_47), .p (pI n_48), .p (pI n_49), .p (pI n_50)]]⟩)) = execT f8_C (nthC (bodies (bodyOf Tryd.f8)) 1) (f8_p24_mk es_29 full_30 n_31 n_32 s_34 n_35 n_36 es_37 full_38 n_39 s_40 n_41 n_42 n_43 n_44 n_45 s_46 n_47 n_48 n_49 n_50 n_33) (loopK N (normK f8_C 24) fun e s => K e (normOut f8_C 24 e s)) := by kernel_rfl
set_option maxRecDepth 100000 in
theorem f8_p23e0 (es_52 : List (List PC)) (full_53 : Bool) (n_54 : Int) (n_55 : Int) (s_56 : ByteArray) (n_57 : Int) (n_58 : Int) (es_59 : List (List PC)) (full_60 : Bool) (n_61 : Int) (s_62 : ByteArray) (n_63 : Int) (n_64 : Int) (n_65 : Int) (n_66 : Int) (n_67 : Int) (s_68 : ByteArray) (n_69 : Int) (n_70 : Int) (n_71 : Int) (n_72 : Int) (K : TExit → St → Prop) : (f8_p23 es_52 full_53 n_54 n_55 s_56 n_57 n_58 es_59 full_60 n_61 s_62 n_63 n_64 n_65 n_66 n_67 s_68 n_69 n_70 n_71 n_72 (fun b0_73 => K .ret ⟨mkS 153 [(6, B b0_73)], []⟩) (fun (_ : Unit) => K .normal ⟨mkS 153 [(3, .w (.one (.ptr 0 0 0))), (4, .w (.one (.ptr 1 0 0))), (5, .w (.one (.ptr 2 0 0))), (7, .w (.one (.p (.sl 10 es_52 full_53)))), (8, I n_54), (9, I n_55)], [.box [.p (pS s_56), .p (pI n_57), .p (pI n_58), .p (.sl 5 es_59 full_60)], .box [.p (pI n_61), .p (pS s_62), .p (pI n_63), .p (pI n_64), .p (pI n_65), .p (pI n_66), .p (pI n_67)], .box [.p (pS s_68), .p (pI n_69), .p (pI n_70), .p (pI n_71), .p (pI n_72)]]⟩)) = execT f8_C (nthC (tails (bodyOf Tryd.f8)) 13) ⟨mkS 153 [(3, .w (.one (.ptr 0 0 0))), (4, .w (.one (.ptr 1 0 0))), (5, .w (.one (.ptr 2 0 0))), (7, .w (.one (.p (.sl 10 es_52 full_53)))), (8, I n_54), (9, I n_55)], [.box [.p (pS s_56), .p (pI n_57), .p (pI n_58), .p (.sl 5 es_59 full_60)], .box [.p (pI n_61), .p (pS s_62), .p (pI n_63), .p (pI n_64), .p (pI n_65), .p (pI n_66), .p (pI n_67)], .box [.p (pS s_68), .p (pI n_69), .p (pI n_70), .p (pI n_71), .p (pI n_72)]]⟩ (fun e s => K e (normOut f8_C 23 e s)) := by kernel_rfl
noncomputable def f8_p14_mk (es40 : List (List PC)) (full41 : Bool) (n42 : Int) (s44 : ByteArray) (n45 : Int) (n46 : Int) (es47 : List (List PC)) (full48 : Bool) (n49 : Int) (s50 : ByteArray) (n51 : Int) (n52 : Int) (n53 : Int) (n54 : Int) (n55 : Int) (s56 : ByteArray) (n57 : Int) (n58 : Int) (n59 : Int) (n60 : Int) (x : Int) : St := ⟨mkS 153 [(3, .w (.one (.ptr 0 0 0))), (4, .w (.one (.ptr 1 0 0))), (5, .w (.one (.ptr 2 0 0))), (7, .w (.one (.p (.sl 10 es40 full41)))), (8, I n42), (9, I x)], [.box [.p (pS s44), .p (pI n45), .p (pI n46), .p (.sl 5 es47 full48)], .box [.p (pI n49), .p (pS s50), .p (pI n51), .p (pI n52), .p (pI n53), .p (pI n54), .p (pI n55)], .box [.p (pS s56), .p (pI n57), .p (pI n58), .p (pI n59), .p (pI n60)]]⟩
set_option maxRecDepth 100000 in
theorem f8_p14e0 (es_95 : List (List PC)) (full_96 : Bool) (n_97 : Int) (n_98 : Int) (s_99 : ByteArray) (n_100 : Int) (n_101 : Int) (es_102 : List (List PC)) (full_103 : Bool) (n_104 : Int) (s_105 : ByteArray) (n_106 : Int) (n_107 : Int) (n_108 : Int) (n_109 : Int) (n_110 : Int) (s_111 : ByteArray) (n_112 : Int) (n_113 : Int) (n_114 : Int) (n_115 : Int) (N : St → Prop) (K : TExit → St → Prop) : (f8_p14b0 es_95 full_96 n_97 n_98 s_99 n_100 n_101 es_102 full_103 n_104 s_105 n_106 n_107 n_108 n_109 n_110 s_111 n_112 n_113 n_114 n_115 (fun z3 => N (f8_p14_mk es_95 full_96 n_97 s_99 n_100 n_101 es_102 full_103 n_104 s_105 n_106 n_107 n_108 n_109 n_110 s_111 n_112 n_113 n_114 n_115 z3)) (fun b0_116 => K .ret ⟨mkS 153 [(6, B b0_116)], []⟩) (fun (_ : Unit) => K (.exit 0) ⟨mkS 153 [(3, .w (.one (.ptr 0 0 0))), (4, .w (.one (.ptr 1 0 0))), (5, .w (.one (.ptr 2 0 0))), (7, .w (.one (.p (.sl 10 es_95 full_96)))), (8, I n_97)], [.box [.p (pS s_99), .p (pI n_100), .p (pI n_101), .p (.sl 5 es_102 full_103)], .box [.p (pI n_104), .p (pS s_105), .p (pI n_106), .p (pI n_107), .p (pI n_108), .p (pI n_109), .p (pI n_110)], .box [.p (pS s_111), .p (pI n_112), .p (pI n_113), .p (pI n_114), .p (pI n_115)]]⟩)) = execT f8_C (nthC (bodies (bodyOf Tryd.f8)) 0) (f8_p14_mk es_95 full_96 n_97 s_99 n_100 n_101 es_102 full_103 n_104 s_105 n_106 n_107 n_108 n_109 n_110 s_111 n_112 n_113 n_114 n_115 n_98) (loopK N (normK f8_C 14) fun e s => K e (normOut f8_C 14 e s)) := by kernel_rfl
noncomputable def f8_p46_mk (es145 : List (List PC)) (full146 : Bool) (es147 : List (List PC)) (full148 : Bool) (s150 : ByteArray) (n151 : Int) (n152 : Int) (n153 : Int) (n154 : Int) (x : Int) : St := ⟨mkS 153 [(5, .w (.one (.ptr 0 0 0))), (7, .w (.one (.p (.sl 10 es145 full146)))), (12, .w (.one (.p (.sl 10 es147 full148)))), (14, I x)], [.box [.p (pS s150), .p (pI n151), .p (pI n152), .p (pI n153), .p (pI n154)]]⟩
set_option maxRecDepth 100000 in
theorem f8_p46e0 (es_127 : List (List PC)) (full_128 : Bool) (es_129 : List (List PC)) (full_130 : Bool) (n_131 : Int) (s_132 : ByteArray) (n_133 : Int) (n_134 : Int) (n_135 : Int) (n_136 : Int) (N : St → Prop) (K : TExit → St → Prop) : (f8_p46b0 es_127 full_128 es_129 full_130 n_131 s_132 n_133 n_134 n_135 n_136 (fun z4 => N (f8_p46_mk es_127 full_128 es_129 full_130 s_132 n_133 n_134 n_135 n_136 z4)) (fun b0_137 => K .ret ⟨mkS 153 [(6, B b0_137)], []⟩) (fun (_ : Unit) => K (.exit 4) ⟨mkS 153 [(5, .w (.one (.ptr 0 0 0))), (7, .w (.one (.p (.sl 10 es_127 full_128)))), (12, .w (.one (.p (.sl 10 es_129 full_130))))], [.box [.p (pS s_132), .p (pI n_133), .p (pI n_134), .p (pI n_135), .p (pI n_136)]]⟩)) = execT f8_C (nthC (bodies (bodyOf Tryd.f8)) 2) (f8_p46_mk es_127 full_128 es_129 full_130 s_132 n_133 n_134 n_135 n_136 n_131) (loopK N (normK f8_C 46) fun e s => K e (normOut f8_C 46 e s)) := by kernel_rfl
set_option maxRecDepth 100000 in
theorem f8_p45e0 (es_138 : List (List PC)) (full_139 : Bool) (es_140 : List (List PC)) (full_141 : Bool) (s_142 : ByteArray) (n_143 : Int) (n_144 : Int) (n_145 : Int) (n_146 : Int) (K : TExit → St → Prop) : (f8_p45 es_138 full_139 es_140 full_141 s_142 n_143 n_144 n_145 n_146 (fun b0_147 => K .ret ⟨mkS 153 [(6, B b0_147)], []⟩)) = execT f8_C (nthC (tails (bodyOf Tryd.f8)) 27) ⟨mkS 153 [(5, .w (.one (.ptr 0 0 0))), (7, .w (.one (.p (.sl 10 es_138 full_139)))), (12, .w (.one (.p (.sl 10 es_140 full_141))))], [.box [.p (pS s_142), .p (pI n_143), .p (pI n_144), .p (pI n_145), .p (pI n_146)]]⟩ (fun e s => K e (normOut f8_C 45 e s)) := by kernel_rfl
set_option maxRecDepth 100000 in
theorem f8_p41e0 (es_148 : List (List PC)) (full_149 : Bool) (es_150 : List (List PC)) (full_151 : Bool) (s_152 : ByteArray) (n_153 : Int) (n_154 : Int) (n_155 : Int) (n_156 : Int) (K : TExit → St → Prop) : (f8_p41 es_148 full_149 es_150 full_151 s_152 n_153 n_154 n_155 n_156 (fun b0_157 => K .ret ⟨mkS 153 [(6, B b0_157)], []⟩)) = execT f8_C (nthC (tails (bodyOf Tryd.f8)) 24) ⟨mkS 153 [(5, .w (.one (.ptr 0 0 0))), (7, .w (.one (.p (.sl 10 es_148 full_149)))), (12, .w (.one (.p (.sl 10 es_150 full_151))))], [.box [.p (pS s_152), .p (pI n_153), .p (pI n_154), .p (pI n_155), .p (pI n_156)]]⟩ (fun e s => K e (normOut f8_C 41 e s)) := by kernel_rfl
set_option maxRecDepth 100000 in
theorem f8_p11e0 (s_158 : ByteArray) (n_159 : Int) (n_160 : Int) (es_161 : List (List PC)) (full_162 : Bool) (n_163 : Int) (s_164 : ByteArray) (n_165 : Int) (n_166 : Int) (n_167 : Int) (n_168 : Int) (n_169 : Int) (s_170 : ByteArray) (n_171 : Int) (n_172 : Int) (n_173 : Int) (n_174 : Int) (K : TExit → St → Prop) : (f8_p11 s_158 n_159 n_160 es_161 full_162 n_163 s_164 n_165 n_166 n_167 n_168 n_169 s_170 n_171 n_172 n_173 n_174 (fun b0_175 => K .ret ⟨mkS 153 [(6, B b0_175)], []⟩)) = execT f8_C (nthC (tails (bodyOf Tryd.f8)) 4) ⟨mkS 153 [(3, .w (.one (.ptr 0 0 0))), (4, .w (.one (.ptr 1 0 0))), (5, .w (.one (.ptr 2 0 0)))], [.box [.p (pS s_158), .p (pI n_159), .p (pI n_160), .p (.sl 5 es_161 full_162)], .box [.p (pI n_163), .p (pS s_164), .p (pI n_165), .p (pI n_166), .p (pI n_167), .p (pI n_168), .p (pI n_169)], .box [.p (pS s_170), .p (pI n_171), .p (pI n_172), .p (pI n_173), .p (pI n_174)]]⟩ (fun e s => K e (normOut f8_C 11 e s)) := by kernel_rfl
set_option maxHeartbeats 4000000 in
theorem f8_p24_ok : LoopOk f8_C (nthC (bodies (bodyOf Tryd.f8)) 1) := by
  refine LoopOk.of f8_p24L (by kernel_rfl) fun σ K h => ?_
  have hk : loopKey (nthC (bodies (bodyOf Tryd.f8)) 1) = 24 := by kernel_rfl
  rw [hk] at h ⊢
  generalize hs : normK f8_C 24 σ = s at h
  obtain ⟨tm, hp⟩ := s
  unfold f8_p24L at h
  dsimp only at h
  obtain ⟨xx, yy, rfl, rfl, h⟩ := getS_elim h
  refine iter_of (f8_p24_mk xx.2.2.2.2.2.1.1 xx.2.2.2.2.2.1.2 xx.2.2.2.2.2.2.1 xx.2.2.2.2.2.2.2.1 yy.1.1 yy.1.2.1 yy.1.2.2.1 yy.1.2.2.2.1.1 yy.1.2.2.2.1.2 yy.2.1.1 yy.2.1.2.1 yy.2.1.2.2.1 yy.2.1.2.2.2.1 yy.2.1.2.2.2.2.1 yy.2.1.2.2.2.2.2.1 yy.2.1.2.2.2.2.2.2.1 yy.2.2.1.1 yy.2.2.1.2.1 yy.2.2.1.2.2.1 yy.2.2.1.2.2.2.1 yy.2.2.1.2.2.2.2.1) (fun x N h => ?_) rounds _ σ (hs.trans (by kernel_rfl)) (LoopP.run h)
  rw [← f8_p24e0 xx.2.2.2.2.2.1.1 xx.2.2.2.2.2.1.2 xx.2.2.2.2.2.2.1 xx.2.2.2.2.2.2.2.1 x yy.1.1 yy.1.2.1 yy.1.2.2.1 yy.1.2.2.2.1.1 yy.1.2.2.2.1.2 yy.2.1.1 yy.2.1.2.1 yy.2.1.2.2.1 yy.2.1.2.2.2.1 yy.2.1.2.2.2.2.1 yy.2.1.2.2.2.2.2.1 yy.2.1.2.2.2.2.2.2.1 yy.2.2.1.1 yy.2.2.1.2.1 yy.2.2.1.2.2.1 yy.2.2.1.2.2.2.1 yy.2.2.1.2.2.2.2.1 N K]
  exact h
set_option maxHeartbeats 4000000 in
theorem f8_p23_ok : TailOk f8_C (nthC (tails (bodyOf Tryd.f8)) 13) := by
  refine TailOk.of f8_p23L (by kernel_rfl) fun σ K h => ?_
  have hk : joinKey (nthC (tails (bodyOf Tryd.f8)) 13) = 23 := by kernel_rfl
  rw [hk] at h ⊢
  generalize hs : normK f8_C 23 σ = s at h
  obtain ⟨tm, hp⟩ := s
  unfold f8_p23L at h
  dsimp only at h
  obtain ⟨xx, yy, rfl, rfl, h⟩ := getS_elim h
  have q : normK f8_C 23 σ = (⟨mkS 153 [(3, .w (.one (.ptr 0 0 0))), (4, .w (.one (.ptr 1 0 0))), (5, .w (.one (.ptr 2 0 0))), (7, .w (.one (.p (.sl 10 xx.2.2.2.2.2.1.1 xx.2.2.2.2.2.1.2)))), (8, I xx.2.2.2.2.2.2.1), (9, I xx.2.2.2.2.2.2.2.1)], [.box [.p (pS yy.1.1), .p (pI yy.1.2.1), .p (pI yy.1.2.2.1), .p (.sl 5 yy.1.2.2.2.1.1 yy.1.2.2.2.1.2)], .box [.p (pI yy.2.1.1), .p (pS yy.2.1.2.1), .p (pI yy.2.1.2.2.1), .p (pI yy.2.1.2.2.2.1), .p (pI yy.2.1.2.2.2.2.1), .p (pI yy.2.1.2.2.2.2.2.1), .p (pI yy.2.1.2.2.2.2.2.2.1)], .box [.p (pS yy.2.2.1.1), .p (pI yy.2.2.1.2.1), .p (pI yy.2.2.1.2.2.1), .p (pI yy.2.2.1.2.2.2.1), .p (pI yy.2.2.1.2.2.2.2.1)]]⟩ : St) := hs.trans (by kernel_rfl)
  rw [← hs, q, ← f8_p23e0 xx.2.2.2.2.2.1.1 xx.2.2.2.2.2.1.2 xx.2.2.2.2.2.2.1 xx.2.2.2.2.2.2.2.1 yy.1.1 yy.1.2.1 yy.1.2.2.1 yy.1.2.2.2.1.1 yy.1.2.2.2.1.2 yy.2.1.1 yy.2.1.2.1 yy.2.1.2.2.1 yy.2.1.2.2.2.1 yy.2.1.2.2.2.2.1 yy.2.1.2.2.2.2.2.1 yy.2.1.2.2.2.2.2.2.1 yy.2.2.1.1 yy.2.2.1.2.1 yy.2.2.1.2.2.1 yy.2.2.1.2.2.2.1 yy.2.2.1.2.2.2.2.1 K]
  exact h
set_option maxHeartbeats 4000000 in
theorem f8_p14_ok : LoopOk f8_C (nthC (bodies (bodyOf Tryd.f8)) 0) := by
  refine LoopOk.of f8_p14L (by kernel_rfl) fun σ K h => ?_
  have hk : loopKey (nthC (bodies (bodyOf Tryd.f8)) 0) = 14 := by kernel_rfl
  rw [hk] at h ⊢
  generalize hs : normK f8_C 14 σ = s at h
  obtain ⟨tm, hp⟩ := s
  unfold f8_p14L at h
  dsimp only at h
  obtain ⟨xx, yy, rfl, rfl, h⟩ := getS_elim h
  refine iter_of (f8_p14_mk xx.2.2.2.2.2.1.1 xx.2.2.2.2.2.1.2 xx.2.2.2.2.2.2.1 yy.1.1 yy.1.2.1 yy.1.2.2.1 yy.1.2.2.2.1.1 yy.1.2.2.2.1.2 yy.2.1.1 yy.2.1.2.1 yy.2.1.2.2.1 yy.2.1.2.2.2.1 yy.2.1.2.2.2.2.1 yy.2.1.2.2.2.2.2.1 yy.2.1.2.2.2.2.2.2.1 yy.2.2.1.1 yy.2.2.1.2.1 yy.2.2.1.2.2.1 yy.2.2.1.2.2.2.1 yy.2.2.1.2.2.2.2.1) (fun x N h => ?_) rounds _ σ (hs.trans (by kernel_rfl)) (LoopP.run h)
  rw [← f8_p14e0 xx.2.2.2.2.2.1.1 xx.2.2.2.2.2.1.2 xx.2.2.2.2.2.2.1 x yy.1.1 yy.1.2.1 yy.1.2.2.1 yy.1.2.2.2.1.1 yy.1.2.2.2.1.2 yy.2.1.1 yy.2.1.2.1 yy.2.1.2.2.1 yy.2.1.2.2.2.1 yy.2.1.2.2.2.2.1 yy.2.1.2.2.2.2.2.1 yy.2.1.2.2.2.2.2.2.1 yy.2.2.1.1 yy.2.2.1.2.1 yy.2.2.1.2.2.1 yy.2.2.1.2.2.2.1 yy.2.2.1.2.2.2.2.1 N K]
  exact h
set_option maxHeartbeats 4000000 in
theorem f8_p46_ok : LoopOk f8_C (nthC (bodies (bodyOf Tryd.f8)) 2) := by
  refine LoopOk.of f8_p46L (by kernel_rfl) fun σ K h => ?_
  have hk : loopKey (nthC (bodies (bodyOf Tryd.f8)) 2) = 46 := by kernel_rfl
  rw [hk] at h ⊢
  generalize hs : normK f8_C 46 σ = s at h
  obtain ⟨tm, hp⟩ := s
  unfold f8_p46L at h
  dsimp only at h
  obtain ⟨xx, yy, rfl, rfl, h⟩ := getS_elim h
  refine iter_of (f8_p46_mk xx.2.2.2.1.1 xx.2.2.2.1.2 xx.2.2.2.2.2.1.1 xx.2.2.2.2.2.1.2 yy.1.1 yy.1.2.1 yy.1.2.2.1 yy.1.2.2.2.1 yy.1.2.2.2.2.1) (fun x N h => ?_) rounds _ σ (hs.trans (by kernel_rfl)) (LoopP.run h)
  rw [← f8_p46e0 xx.2.2.2.1.1 xx.2.2.2.1.2 xx.2.2.2.2.2.1.1 xx.2.2.2.2.2.1.2 x yy.1.1 yy.1.2.1 yy.1.2.2.1 yy.1.2.2.2.1 yy.1.2.2.2.2.1 N K]
  exact h
set_option maxHeartbeats 4000000 in
theorem f8_p45_ok : TailOk f8_C (nthC (tails (bodyOf Tryd.f8)) 27) := by
  refine TailOk.of f8_p45L (by kernel_rfl) fun σ K h => ?_
  have hk : joinKey (nthC (tails (bodyOf Tryd.f8)) 27) = 45 := by kernel_rfl
  rw [hk] at h ⊢
  generalize hs : normK f8_C 45 σ = s at h
  obtain ⟨tm, hp⟩ := s
  unfold f8_p45L at h
  dsimp only at h
  obtain ⟨xx, yy, rfl, rfl, h⟩ := getS_elim h
  have q : normK f8_C 45 σ = (⟨mkS 153 [(5, .w (.one (.ptr 0 0 0))), (7, .w (.one (.p (.sl 10 xx.2.2.2.1.1 xx.2.2.2.1.2)))), (12, .w (.one (.p (.sl 10 xx.2.2.2.2.2.1.1 xx.2.2.2.2.2.1.2))))], [.box [.p (pS yy.1.1), .p (pI yy.1.2.1), .p (pI yy.1.2.2.1), .p (pI yy.1.2.2.2.1), .p (pI yy.1.2.2.2.2.1)]]⟩ : St) := hs.trans (by kernel_rfl)
  rw [← hs, q, ← f8_p45e0 xx.2.2.2.1.1 xx.2.2.2.1.2 xx.2.2.2.2.2.1.1 xx.2.2.2.2.2.1.2 yy.1.1 yy.1.2.1 yy.1.2.2.1 yy.1.2.2.2.1 yy.1.2.2.2.2.1 K]
  exact h
set_option maxHeartbeats 4000000 in
theorem f8_p41_ok : TailOk f8_C (nthC (tails (bodyOf Tryd.f8)) 24) := by
  refine TailOk.of f8_p41L (by kernel_rfl) fun σ K h => ?_
  have hk : joinKey (nthC (tails (bodyOf Tryd.f8)) 24) = 41 := by kernel_rfl
  rw [hk] at h ⊢
  generalize hs : normK f8_C 41 σ = s at h
  obtain ⟨tm, hp⟩ := s
  unfold f8_p41L at h
  dsimp only at h
  obtain ⟨xx, yy, rfl, rfl, h⟩ := getS_elim h
  have q : normK f8_C 41 σ = (⟨mkS 153 [(5, .w (.one (.ptr 0 0 0))), (7, .w (.one (.p (.sl 10 xx.2.2.2.1.1 xx.2.2.2.1.2)))), (12, .w (.one (.p (.sl 10 xx.2.2.2.2.2.1.1 xx.2.2.2.2.2.1.2))))], [.box [.p (pS yy.1.1), .p (pI yy.1.2.1), .p (pI yy.1.2.2.1), .p (pI yy.1.2.2.2.1), .p (pI yy.1.2.2.2.2.1)]]⟩ : St) := hs.trans (by kernel_rfl)
  rw [← hs, q, ← f8_p41e0 xx.2.2.2.1.1 xx.2.2.2.1.2 xx.2.2.2.2.2.1.1 xx.2.2.2.2.2.1.2 yy.1.1 yy.1.2.1 yy.1.2.2.1 yy.1.2.2.2.1 yy.1.2.2.2.2.1 K]
  exact h
set_option maxHeartbeats 4000000 in
theorem f8_p11_ok : TailOk f8_C (nthC (tails (bodyOf Tryd.f8)) 4) := by
  refine TailOk.of f8_p11L (by kernel_rfl) fun σ K h => ?_
  have hk : joinKey (nthC (tails (bodyOf Tryd.f8)) 4) = 11 := by kernel_rfl
  rw [hk] at h ⊢
  generalize hs : normK f8_C 11 σ = s at h
  obtain ⟨tm, hp⟩ := s
  unfold f8_p11L at h
  dsimp only at h
  obtain ⟨xx, yy, rfl, rfl, h⟩ := getS_elim h
  have q : normK f8_C 11 σ = (⟨mkS 153 [(3, .w (.one (.ptr 0 0 0))), (4, .w (.one (.ptr 1 0 0))), (5, .w (.one (.ptr 2 0 0)))], [.box [.p (pS yy.1.1), .p (pI yy.1.2.1), .p (pI yy.1.2.2.1), .p (.sl 5 yy.1.2.2.2.1.1 yy.1.2.2.2.1.2)], .box [.p (pI yy.2.1.1), .p (pS yy.2.1.2.1), .p (pI yy.2.1.2.2.1), .p (pI yy.2.1.2.2.2.1), .p (pI yy.2.1.2.2.2.2.1), .p (pI yy.2.1.2.2.2.2.2.1), .p (pI yy.2.1.2.2.2.2.2.2.1)], .box [.p (pS yy.2.2.1.1), .p (pI yy.2.2.1.2.1), .p (pI yy.2.2.1.2.2.1), .p (pI yy.2.2.1.2.2.2.1), .p (pI yy.2.2.1.2.2.2.2.1)]]⟩ : St) := hs.trans (by kernel_rfl)
  rw [← hs, q, ← f8_p11e0 yy.1.1 yy.1.2.1 yy.1.2.2.1 yy.1.2.2.2.1.1 yy.1.2.2.2.1.2 yy.2.1.1 yy.2.1.2.1 yy.2.1.2.2.1 yy.2.1.2.2.2.1 yy.2.1.2.2.2.2.1 yy.2.1.2.2.2.2.2.1 yy.2.1.2.2.2.2.2.2.1 yy.2.2.1.1 yy.2.2.1.2.1 yy.2.2.1.2.2.1 yy.2.2.1.2.2.2.1 yy.2.2.1.2.2.2.2.1 K]
  exact h
noncomputable def f8_G0 : List TV → List Entry → (TV → List Entry → Prop) → Prop := fun tm hp K => getS [.v (.pagg [.str, .int .i64, .int .i64, .sl 5]), .v (.pagg [.int .i64, .str, .int .i64, .int .i64, .int .i64, .int .i64, .int .i64]), .v (.pagg [.str, .int .i64, .int .i64, .int .i64, .int .i64])] [] tm hp fun (xx : ((ByteArray × (Int × (Int × ((List (List PC) × Bool) × Unit)))) × ((Int × (ByteArray × (Int × (Int × (Int × (Int × (Int × Unit))))))) × ((ByteArray × (Int × (Int × (Int × (Int × Unit))))) × Unit)))) (yy : Unit) => f8 xx.1.1 xx.1.2.1 xx.1.2.2.1 xx.1.2.2.2.1.1 xx.1.2.2.2.1.2 xx.2.1.1 xx.2.1.2.1 xx.2.1.2.2.1 xx.2.1.2.2.2.1 xx.2.1.2.2.2.2.1 xx.2.1.2.2.2.2.2.1 xx.2.1.2.2.2.2.2.2.1 xx.2.2.1.1 xx.2.2.1.2.1 xx.2.2.1.2.2.1 xx.2.2.1.2.2.2.1 xx.2.2.1.2.2.2.2.1 (fun b0_176 => K (B b0_176) [])
set_option maxRecDepth 100000 in
theorem f8_eq (s_177 : ByteArray) (n_178 : Int) (n_179 : Int) (es_180 : List (List PC)) (full_181 : Bool) (n_182 : Int) (s_183 : ByteArray) (n_184 : Int) (n_185 : Int) (n_186 : Int) (n_187 : Int) (n_188 : Int) (s_189 : ByteArray) (n_190 : Int) (n_191 : Int) (n_192 : Int) (n_193 : Int) (K : TV → List Entry → Prop) : (f8_d s_177 n_178 n_179 es_180 full_181 n_182 s_183 n_184 n_185 n_186 n_187 n_188 s_189 n_190 n_191 n_192 n_193 (fun b0_176 => K (B b0_176) [])) = funcT f8_C Tryd.f8 [.w (.pagg [pS s_177, pI n_178, pI n_179, .sl 5 es_180 full_181]), .w (.pagg [pI n_182, pS s_183, pI n_184, pI n_185, pI n_186, pI n_187, pI n_188]), .w (.pagg [pS s_189, pI n_190, pI n_191, pI n_192, pI n_193])] [] K := by kernel_rfl
set_option maxHeartbeats 4000000 in
theorem f8_ok0 : FnOk Tryd.prog glob 8 f8_G0 := by
  refine FnOk.of_text (C := f8_C) tab_ok.ok (Known.add f21_G_ok (Known.add f13_G_ok (Known.add f12_G_ok (Known.none)))) follows_ok (fn := Tryd.f8) (by kernel_rfl) (by kernel_rfl) (by kernel_rfl) (fun c hc => ?_) fun tm hp K h => ?_
  · have e : c = bodyOf Tryd.f8 := Option.some.inj (hc.symm.trans (by kernel_rfl))
    subst e
    exact ⟨LoopsOk.of [nthC (bodies (bodyOf Tryd.f8)) 0, nthC (bodies (bodyOf Tryd.f8)) 1, nthC (bodies (bodyOf Tryd.f8)) 2] (by kernel_rfl) ⟨f8_p14_ok, f8_p24_ok, f8_p46_ok, trivial⟩, TailsOk.of (tab := f8_tab) rfl [nthC (tails (bodyOf Tryd.f8)) 4, nthC (tails (bodyOf Tryd.f8)) 13, nthC (tails (bodyOf Tryd.f8)) 24, nthC (tails (bodyOf Tryd.f8)) 27] (by kernel_rfl) ⟨f8_p11_ok, f8_p23_ok, f8_p41_ok, f8_p45_ok, trivial⟩⟩
  · unfold f8_G0 at h
    obtain ⟨xx, yy, rfl, rfl, h⟩ := getS_elim h
    have e := (f8_eq xx.1.1 xx.1.2.1 xx.1.2.2.1 xx.1.2.2.2.1.1 xx.1.2.2.2.1.2 xx.2.1.1 xx.2.1.2.1 xx.2.1.2.2.1 xx.2.1.2.2.2.1 xx.2.1.2.2.2.2.1 xx.2.1.2.2.2.2.2.1 xx.2.1.2.2.2.2.2.2.1 xx.2.2.1.1 xx.2.2.1.2.1 xx.2.2.1.2.2.1 xx.2.2.1.2.2.2.1 xx.2.2.1.2.2.2.2.1 K).trans (show _ = funcT f8_C Tryd.f8 (mkR _ xx) (mkE _ yy) K by kernel_rfl)
    rw [← e]
    exact h.run
noncomputable abbrev f8_G := f8_G0
theorem f8_G_ok : FnOk Tryd.prog glob 8 f8_G := f8_ok0
end Go.Eng.N
