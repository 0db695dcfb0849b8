/- What the functions that the law reaches compute, by the engine; written by program. -/
import Derived.Test.YtbidkfbcmhioiaaDoorFn1
set_option linter.unusedVariables false
set_option maxRecDepth 100000
open Go Go.Eng Go.Proofs
namespace Go.Eng.N
/-! ### f28: plenum/plenumref39.Without -/
noncomputable def f28_p12b0 (s8 : ByteArray) (n9 : Int) (s10 : ByteArray) (n11 : Int) (n12 : Int) (es13 : List (List PC)) (full14 : Bool) (s15 : ByteArray) (n16 : Int) (n17 : Int) (s18 : ByteArray) (n19 : Int) (n20 : Int) (i21 : Nat) (n22 : Nat) (es23 : List (List PC)) (N0 : Int → Nat → Nat → (List (List PC)) → Prop) (k0 : Nat → Nat → (List (List PC)) → Prop) : Prop := bB (decide (n9 < ((es13.length : Nat) : Int))) ((0 ≤ n9 ∧ n9 < ((es13.length : Nat) : Int)) ∧ oS (ext (List.getD es13 (Int.toNat n9) []) 0 1) fun s24 => bB (!(s24.toList == s8.toList)) ((0 ≤ n9 ∧ n9 < ((es13.length : Nat) : Int)) ∧ cS (ext (List.getD es13 (Int.toNat n9) []) 0 5) fun s26 r25 => cI .i64 r25 fun n28 r27 => cI .i64 r27 fun n30 r29 => cI .i64 r29 fun n32 r31 => cI .i64 r31 fun n34 r33 => nilC r33 <| (i21 + n22) = es23.length ∧ (n22 + 1) * 48 ≤ 2 ^ 46 ∧ (n22 + 1) ≤ 2 ^ 46 ∧ N0 (w64 (n9 + 1)) 0 (n22 + 1) (List.drop i21 es23 ++ [[pS s26, pI n28, pI n30, pI n32, pI n34]])) (N0 (w64 (n9 + 1)) i21 n22 es23)) (k0 i21 n22 es23)
noncomputable def f28_p12 (s8 : ByteArray) (s10 : ByteArray) (n11 : Int) (n12 : Int) (es13 : List (List PC)) (full14 : Bool) (s15 : ByteArray) (n16 : Int) (n17 : Int) (s18 : ByteArray) (n19 : Int) (n20 : Int) (k0 : Nat → Nat → (List (List PC)) → Prop) : Int × Nat × Nat × (List (List PC)) → Prop := LoopP fun x N => f28_p12b0 s8 x.1 s10 n11 n12 es13 full14 s15 n16 n17 s18 n19 n20 x.2.1 x.2.2.1 x.2.2.2 (fun n9 i21 n22 es23 => N (n9, i21, n22, es23)) k0
noncomputable def f28_p38b0 (n69 : Int) (n70 : Int) (n71 : Int) (s72 : ByteArray) (n73 : Int) (n74 : Int) (es75 : List (List PC)) (full76 : Bool) (s77 : ByteArray) (n78 : Int) (n79 : Int) (s80 : ByteArray) (n81 : Int) (n82 : Int) (i83 : Nat) (n84 : Nat) (es85 : List (List PC)) (N0 : Int → Prop) (k0 : Int → ByteArray → Int → Int → Prop) (k1 : Unit → Prop) : Prop := bB (decide (n71 ≤ 4)) (f60 s72 n73 n74 es75 full76 n69 n70 n71 (fun b86 => bB b86 (f60 s80 n81 n82 (List.take n84 (List.drop i83 es85)) false n69 n70 n71 (fun b87 => bB (!b87) (k0 10 (⟨#[]⟩ : ByteArray) 0 0) (N0 (w64 (2 * n71))))) (N0 (w64 (2 * n71))))) (k1 ())
noncomputable def f28_p38 (n69 : Int) (n70 : Int) (s72 : ByteArray) (n73 : Int) (n74 : Int) (es75 : List (List PC)) (full76 : Bool) (s77 : ByteArray) (n78 : Int) (n79 : Int) (s80 : ByteArray) (n81 : Int) (n82 : Int) (i83 : Nat) (n84 : Nat) (es85 : List (List PC)) (k0 : Int → ByteArray → Int → Int → Prop) (k1 : Unit → Prop) : Int → Prop := LoopP fun x N => f28_p38b0 n69 n70 x s72 n73 n74 es75 full76 s77 n78 n79 s80 n81 n82 i83 n84 es85 (fun n71 => N n71) k0 k1
noncomputable def f28_p32b0 (n53 : Int) (n54 : Int) (s55 : ByteArray) (n56 : Int) (n57 : Int) (es58 : List (List PC)) (full59 : Bool) (s60 : ByteArray) (n61 : Int) (n62 : Int) (s63 : ByteArray) (n64 : Int) (n65 : Int) (i66 : Nat) (n67 : Nat) (es68 : List (List PC)) (N0 : Int → Prop) (k0 : Int → ByteArray → Int → Int → Prop) (k1 : Unit → Prop) : Prop := bB (decide (n54 < 1440)) (f28_p38 n53 n54 s55 n56 n57 es58 full59 s60 n61 n62 s63 n64 n65 i66 n67 es68 (fun n88 s89 n90 n91 => k0 n88 s89 n90 n91) (fun (_ : Unit) => N0 (w64 (n54 + 1))) 1) (k1 ())
noncomputable def f28_p32 (n53 : Int) (s55 : ByteArray) (n56 : Int) (n57 : Int) (es58 : List (List PC)) (full59 : Bool) (s60 : ByteArray) (n61 : Int) (n62 : Int) (s63 : ByteArray) (n64 : Int) (n65 : Int) (i66 : Nat) (n67 : Nat) (es68 : List (List PC)) (k0 : Int → ByteArray → Int → Int → Prop) (k1 : Unit → Prop) : Int → Prop := LoopP fun x N => f28_p32b0 n53 x s55 n56 n57 es58 full59 s60 n61 n62 s63 n64 n65 i66 n67 es68 (fun n54 => N n54) k0 k1
noncomputable def f28_p26b0 (n38 : Int) (s39 : ByteArray) (n40 : Int) (n41 : Int) (es42 : List (List PC)) (full43 : Bool) (s44 : ByteArray) (n45 : Int) (n46 : Int) (s47 : ByteArray) (n48 : Int) (n49 : Int) (i50 : Nat) (n51 : Nat) (es52 : List (List PC)) (N0 : Int → Prop) (k0 : Int → ByteArray → Int → Int → Prop) (k1 : Unit → Prop) : Prop := bB (decide (n38 < 7)) (f28_p32 n38 s39 n40 n41 es42 full43 s44 n45 n46 s47 n48 n49 i50 n51 es52 (fun n92 s93 n94 n95 => k0 n92 s93 n94 n95) (fun (_ : Unit) => N0 (w64 (n38 + 1))) 0) (k1 ())
noncomputable def f28_p26 (s39 : ByteArray) (n40 : Int) (n41 : Int) (es42 : List (List PC)) (full43 : Bool) (s44 : ByteArray) (n45 : Int) (n46 : Int) (s47 : ByteArray) (n48 : Int) (n49 : Int) (i50 : Nat) (n51 : Nat) (es52 : List (List PC)) (k0 : Int → ByteArray → Int → Int → Prop) (k1 : Unit → Prop) : Int → Prop := LoopP fun x N => f28_p26b0 x s39 n40 n41 es42 full43 s44 n45 n46 s47 n48 n49 i50 n51 es52 (fun n38 => N n38) k0 k1
noncomputable def f28_d (s1 : ByteArray) (n2 : Int) (n3 : Int) (es4 : List (List PC)) (full5 : Bool) (s6 : ByteArray) (k0 : ByteArray → Int → Int → (List (List PC)) → Bool → Int → Prop) : Prop := f17 s1 n2 n3 es4 full5 (fun n7 => bB (n7 != 0) (k0 (⟨#[]⟩ : ByteArray) 0 0 [] true n7) (f28_p12 s6 s1 n2 n3 es4 full5 (⟨#[]⟩ : ByteArray) 0 0 s1 n2 n3 (fun i35 n36 es37 => bB (((n36 : Nat) : Int) == ((es4.length : Nat) : Int)) (k0 (⟨#[]⟩ : ByteArray) 0 0 [] true 3) (f28_p26 s1 n2 n3 es4 full5 (⟨#[]⟩ : ByteArray) 0 0 s1 n2 n3 i35 n36 es37 (fun n96 s97 n98 n99 => k0 s97 n98 n99 [] true n96) (fun (_ : Unit) => k0 s1 n2 n3 (List.take n36 (List.drop i35 es37)) false 0) 0)) (0, 0, 0, [])))
structure f28 (s1 : ByteArray) (n2 : Int) (n3 : Int) (es4 : List (List PC)) (full5 : Bool) (s6 : ByteArray) (k0 : ByteArray → Int → Int → (List (List PC)) → Bool → Int → Prop) : Prop where
  run : f28_d s1 n2 n3 es4 full5 s6 k0
noncomputable def f28_p12L : Told := fun s K => match s with
  | ⟨tm, hp⟩ => getS [.skip 1, .v (.one (.str)), .v (.one (.ptr 0 0 0)), .skip 1, .v (.one (.ptr 1 0 0)), .skip 2, .v (.one (.ptr 2 0 0)), .v (.one (.int .i64)), .skip 76] [.box [.str, .int .i64, .int .i64, .sl 5], .box [.str, .int .i64, .int .i64, .nil 5], .box [.str, .int .i64, .int .i64, .ref 3], .vec 5 true] tm hp fun (xx : (Unit × (ByteArray × (Unit × (Unit × (Unit × (Unit × (Unit × (Int × (Unit × Unit)))))))))) (yy : ((ByteArray × (Int × (Int × ((List (List PC) × Bool) × Unit)))) × ((ByteArray × (Int × (Int × (Unit × Unit)))) × ((ByteArray × (Int × (Int × ((Nat × Nat) × Unit)))) × ((List (List PC)) × Unit))))) => f28_p12 xx.2.1 yy.1.1 yy.1.2.1 yy.1.2.2.1 yy.1.2.2.2.1.1 yy.1.2.2.2.1.2 yy.2.1.1 yy.2.1.2.1 yy.2.1.2.2.1 yy.2.2.1.1 yy.2.2.1.2.1 yy.2.2.1.2.2.1 (fun i0_0 n0_1 es0_2 => K (.exit 0) ⟨mkS 85 [(2, .w (.one (.ptr 0 0 0))), (4, .w (.one (.ptr 1 0 0))), (7, .w (.one (.ptr 2 0 0)))], [.box [.p (pS yy.1.1), .p (pI yy.1.2.1), .p (pI yy.1.2.2.1), .p (.sl 5 yy.1.2.2.2.1.1 yy.1.2.2.2.1.2)], .box [.p (pS yy.2.1.1), .p (pI yy.2.1.2.1), .p (pI yy.2.1.2.2.1), .p (.sl 5 [] true)], .box [.p (pS yy.2.2.1.1), .p (pI yy.2.2.1.2.1), .p (pI yy.2.2.1.2.2.1), .ref 3 i0_0 n0_1], .vec 5 es0_2 true]⟩) (xx.2.2.2.2.2.2.2.1, yy.2.2.1.2.2.2.1.1, yy.2.2.1.2.2.2.1.2, yy.2.2.2.1)
noncomputable def f28_p38L : Told := fun s K => match s with
  | ⟨tm, hp⟩ => getS [.skip 2, .v (.one (.ptr 0 0 0)), .skip 1, .v (.one (.ptr 1 0 0)), .skip 2, .v (.one (.ptr 2 0 0)), .skip 1, .v (.one (.int .i64)), .v (.one (.int .i64)), .v (.one (.int .i64)), .skip 73] [.box [.str, .int .i64, .int .i64, .sl 5], .box [.str, .int .i64, .int .i64, .nil 5], .box [.str, .int .i64, .int .i64, .ref 3], .vec 5 true] tm hp fun (xx : (Unit × (Unit × (Unit × (Unit × (Unit × (Unit × (Unit × (Int × (Int × (Int × (Unit × Unit)))))))))))) (yy : ((ByteArray × (Int × (Int × ((List (List PC) × Bool) × Unit)))) × ((ByteArray × (Int × (Int × (Unit × Unit)))) × ((ByteArray × (Int × (Int × ((Nat × Nat) × Unit)))) × ((List (List PC)) × Unit))))) => f28_p38 xx.2.2.2.2.2.2.2.1 xx.2.2.2.2.2.2.2.2.1 yy.1.1 yy.1.2.1 yy.1.2.2.1 yy.1.2.2.2.1.1 yy.1.2.2.2.1.2 yy.2.1.1 yy.2.1.2.1 yy.2.1.2.2.1 yy.2.2.1.1 yy.2.2.1.2.1 yy.2.2.1.2.2.1 yy.2.2.1.2.2.2.1.1 yy.2.2.1.2.2.2.1.2 yy.2.2.2.1 (fun n0_3 s0_4 n0_5 n0_6 => K .ret ⟨mkS 85 [(4, .w (.one (.ptr 0 0 0))), (5, I n0_3)], [.box [.p (pS s0_4), .p (pI n0_5), .p (pI n0_6), .p (.sl 5 [] true)]]⟩) (fun (_ : Unit) => K (.exit 6) ⟨mkS 85 [(2, .w (.one (.ptr 0 0 0))), (4, .w (.one (.ptr 1 0 0))), (7, .w (.one (.ptr 2 0 0))), (9, I xx.2.2.2.2.2.2.2.1), (10, I xx.2.2.2.2.2.2.2.2.1)], [.box [.p (pS yy.1.1), .p (pI yy.1.2.1), .p (pI yy.1.2.2.1), .p (.sl 5 yy.1.2.2.2.1.1 yy.1.2.2.2.1.2)], .box [.p (pS yy.2.1.1), .p (pI yy.2.1.2.1), .p (pI yy.2.1.2.2.1), .p (.sl 5 [] true)], .box [.p (pS yy.2.2.1.1), .p (pI yy.2.2.1.2.1), .p (pI yy.2.2.1.2.2.1), .ref 3 yy.2.2.1.2.2.2.1.1 yy.2.2.1.2.2.2.1.2], .vec 5 yy.2.2.2.1 true]⟩) xx.2.2.2.2.2.2.2.2.2.1
noncomputable def f28_p32L : Told := fun s K => match s with
  | ⟨tm, hp⟩ => getS [.skip 2, .v (.one (.ptr 0 0 0)), .skip 1, .v (.one (.ptr 1 0 0)), .skip 2, .v (.one (.ptr 2 0 0)), .skip 1, .v (.one (.int .i64)), .v (.one (.int .i64)), .skip 74] [.box [.str, .int .i64, .int .i64, .sl 5], .box [.str, .int .i64, .int .i64, .nil 5], .box [.str, .int .i64, .int .i64, .ref 3], .vec 5 true] tm hp fun (xx : (Unit × (Unit × (Unit × (Unit × (Unit × (Unit × (Unit × (Int × (Int × (Unit × Unit))))))))))) (yy : ((ByteArray × (Int × (Int × ((List (List PC) × Bool) × Unit)))) × ((ByteArray × (Int × (Int × (Unit × Unit)))) × ((ByteArray × (Int × (Int × ((Nat × Nat) × Unit)))) × ((List (List PC)) × Unit))))) => f28_p32 xx.2.2.2.2.2.2.2.1 yy.1.1 yy.1.2.1 yy.1.2.2.1 yy.1.2.2.2.1.1 yy.1.2.2.2.1.2 yy.2.1.1 yy.2.1.2.1 yy.2.1.2.2.1 yy.2.2.1.1 yy.2.2.1.2.1 yy.2.2.1.2.2.1 yy.2.2.1.2.2.2.1.1 yy.2.2.1.2.2.2.1.2 yy.2.2.2.1 (fun n0_7 s0_8 n0_9 n0_10 => K .ret ⟨mkS 85 [(4, .w (.one (.ptr 0 0 0))), (5, I n0_7)], [.box [.p (pS s0_8), .p (pI n0_9), .p (pI n0_10), .p (.sl 5 [] true)]]⟩) (fun (_ : Unit) => K (.exit 4) ⟨mkS 85 [(2, .w (.one (.ptr 0 0 0))), (4, .w (.one (.ptr 1 0 0))), (7, .w (.one (.ptr 2 0 0))), (9, I xx.2.2.2.2.2.2.2.1)], [.box [.p (pS yy.1.1), .p (pI yy.1.2.1), .p (pI yy.1.2.2.1), .p (.sl 5 yy.1.2.2.2.1.1 yy.1.2.2.2.1.2)], .box [.p (pS yy.2.1.1), .p (pI yy.2.1.2.1), .p (pI yy.2.1.2.2.1), .p (.sl 5 [] true)], .box [.p (pS yy.2.2.1.1), .p (pI yy.2.2.1.2.1), .p (pI yy.2.2.1.2.2.1), .ref 3 yy.2.2.1.2.2.2.1.1 yy.2.2.1.2.2.2.1.2], .vec 5 yy.2.2.2.1 true]⟩) xx.2.2.2.2.2.2.2.2.1
noncomputable def f28_p26L : Told := fun s K => match s with
  | ⟨tm, hp⟩ => getS [.skip 2, .v (.one (.ptr 0 0 0)), .skip 1, .v (.one (.ptr 1 0 0)), .skip 2, .v (.one (.ptr 2 0 0)), .skip 1, .v (.one (.int .i64)), .skip 75] [.box [.str, .int .i64, .int .i64, .sl 5], .box [.str, .int .i64, .int .i64, .nil 5], .box [.str, .int .i64, .int .i64, .ref 3], .vec 5 true] tm hp fun (xx : (Unit × (Unit × (Unit × (Unit × (Unit × (Unit × (Unit × (Int × (Unit × Unit)))))))))) (yy : ((ByteArray × (Int × (Int × ((List (List PC) × Bool) × Unit)))) × ((ByteArray × (Int × (Int × (Unit × Unit)))) × ((ByteArray × (Int × (Int × ((Nat × Nat) × Unit)))) × ((List (List PC)) × Unit))))) => f28_p26 yy.1.1 yy.1.2.1 yy.1.2.2.1 yy.1.2.2.2.1.1 yy.1.2.2.2.1.2 yy.2.1.1 yy.2.1.2.1 yy.2.1.2.2.1 yy.2.2.1.1 yy.2.2.1.2.1 yy.2.2.1.2.2.1 yy.2.2.1.2.2.2.1.1 yy.2.2.1.2.2.2.1.2 yy.2.2.2.1 (fun n0_11 s0_12 n0_13 n0_14 => K .ret ⟨mkS 85 [(4, .w (.one (.ptr 0 0 0))), (5, I n0_11)], [.box [.p (pS s0_12), .p (pI n0_13), .p (pI n0_14), .p (.sl 5 [] true)]]⟩) (fun (_ : Unit) => K (.exit 2) ⟨mkS 85 [(4, .w (.one (.ptr 0 0 0))), (7, .w (.one (.ptr 1 0 0)))], [.box [.p (pS yy.2.1.1), .p (pI yy.2.1.2.1), .p (pI yy.2.1.2.2.1), .p (.sl 5 [] true)], .box [.p (pS yy.2.2.1.1), .p (pI yy.2.2.1.2.1), .p (pI yy.2.2.1.2.2.1), .ref 2 yy.2.2.1.2.2.2.1.1 yy.2.2.1.2.2.2.1.2], .vec 5 yy.2.2.2.1 true]⟩) xx.2.2.2.2.2.2.2.1
noncomputable def f28_tab : List (Nat × Told) := [(12, f28_p12L), (38, f28_p38L), (32, f28_p32L), (26, f28_p26L)]
noncomputable def f28_call : FuncId → List TV → List Entry → (TV → List Entry → Prop) → Prop := addCall 60 f60_G (addCall 17 f17_G (noCalls))
noncomputable def f28_C : Ctx := { ty := tyOf tab, glob := glob, byRef := byRef, keep := fun k i => lookN [] (lookN [] ([(12, [(0, [1, 2, 4, 7, 8]), (2, [4, 5]), (3, [2, 4, 7])]), (38, [(0, [2, 4, 7, 9, 10, 11]), (2, [4, 5]), (5, [4, 7]), (6, [2, 4, 7, 9]), (7, [2, 4, 7, 9]), (8, [2, 4, 7, 9, 10]), (9, [2, 4, 7, 9, 10])]), (32, [(0, [2, 4, 7, 9, 10]), (2, [4, 5]), (5, [4, 7]), (6, [2, 4, 7, 9]), (7, [2, 4, 7, 9])]), (26, [(0, [2, 4, 7, 9]), (2, [4, 5]), (5, [4, 7])])] : List (Nat × List (Nat × List Nat))) k) i, late := lookN [] ([] : List (Nat × List Nat)), nref := lookN [] ([] : List (Nat × List Nat)), nbox := lookN [] ([(12, [(2, 3)])] : List (Nat × List (Nat × Nat))), take := [], rnil := false, m := 0, fz := true, loops := lookL f28_tab, call := f28_call }
noncomputable def f28_p12_mk (s8 : ByteArray) (s10 : ByteArray) (n11 : Int) (n12 : Int) (es13 : List (List PC)) (full14 : Bool) (s15 : ByteArray) (n16 : Int) (n17 : Int) (s18 : ByteArray) (n19 : Int) (n20 : Int) (x : Int × Nat × Nat × (List (List PC))) : St := ⟨mkS 85 [(1, S s8), (2, .w (.one (.ptr 0 0 0))), (4, .w (.one (.ptr 1 0 0))), (7, .w (.one (.ptr 2 0 0))), (8, I x.1)], [.box [.p (pS s10), .p (pI n11), .p (pI n12), .p (.sl 5 es13 full14)], .box [.p (pS s15), .p (pI n16), .p (pI n17), .p (.sl 5 [] true)], .box [.p (pS s18), .p (pI n19), .p (pI n20), .ref 3 x.2.1 x.2.2.1], .vec 5 x.2.2.2 true]⟩
set_option maxRecDepth 100000 in
theorem f28_p12e0 (s_31 : ByteArray) (n_32 : Int) (s_33 : ByteArray) (n_34 : Int) (n_35 : Int) (es_36 : List (List PC)) (full_37 : Bool) (s_38 : ByteArray) (n_39 : Int) (n_40 : Int) (s_41 : ByteArray) (n_42 : Int) (n_43 : Int) (i_44 : Nat) (n_45 : Nat) (es_46 : List (List PC)) (N : St → Prop) (K : TExit → St → Prop) : (f28_p12b0 s_31 n_32 s_33 n_34 n_35 es_36 full_37 s_38 n_39 n_40 s_41 n_42 n_43 i_44 n_45 es_46 (fun z1 z13 z14 z15 => N (f28_p12_mk s_31 s_33 n_34 n_35 es_36 full_37 s_38 n_39 n_40 s_41 n_42 n_43 (z1, z13, z14, z15))) (fun i0_47 n0_48 es0_49 => K (.exit 0) ⟨mkS 85 [(2, .w (.one (.ptr 0 0 0))), (4, .w (.one (.ptr 1 0 0))), (7, .w (.one (.ptr 2 0 0)))], [.box [.p (pS s_33), .p (pI n_34), .p (pI n_35), .p (.sl 5 es_36 full_37)], .box [.p (pS s_38), .p (pI n_39), .p (pI n_40), .p (.sl 5 [] true)], .box [.p (pS s_41), .p (pI n_42), .p (pI n_43), .ref 3 i0_47 n0_48], .vec 5 es0_49 true]⟩)) = execT f28_C (nthC (bodies (bodyOf Tryd.f28)) 0) (f28_p12_mk s_31 s_33 n_34 n_35 es_36 full_37 s_38 n_39 n_40 s_41 n_42 n_43 (n_32, i_44, n_45, es_46)) (loopK N (normK f28_C 12) fun e s => K e (normOut f28_C 12 e s)) := by kernel_rfl
noncomputable def f28_p38_mk (n69 : Int) (n70 : Int) (s72 : ByteArray) (n73 : Int) (n74 : Int) (es75 : List (List PC)) (full76 : Bool) (s77 : ByteArray) (n78 : Int) (n79 : Int) (s80 : ByteArray) (n81 : Int) (n82 : Int) (i83 : Nat) (n84 : Nat) (es85 : List (List PC)) (x : Int) : St := ⟨mkS 85 [(2, .w (.one (.ptr 0 0 0))), (4, .w (.one (.ptr 1 0 0))), (7, .w (.one (.ptr 2 0 0))), (9, I n69), (10, I n70), (11, I x)], [.box [.p (pS s72), .p (pI n73), .p (pI n74), .p (.sl 5 es75 full76)], .box [.p (pS s77), .p (pI n78), .p (pI n79), .p (.sl 5 [] true)], .box [.p (pS s80), .p (pI n81), .p (pI n82), .ref 3 i83 n84], .vec 5 es85 true]⟩
set_option maxRecDepth 100000 in
theorem f28_p38e0 (n_67 : Int) (n_68 : Int) (n_69 : Int) (s_70 : ByteArray) (n_71 : Int) (n_72 : Int) (es_73 : List (List PC)) (full_74 : Bool) (s_75 : ByteArray) (n_76 : Int) (n_77 : Int) (s_78 : ByteArray) (n_79 : Int) (n_80 : Int) (i_81 : Nat) (n_82 : Nat) (es_83 : List (List PC)) (N : St → Prop) (K : TExit → St → Prop) : (f28_p38b0 n_67 n_68 n_69 s_70 n_71 n_72 es_73 full_74 s_75 n_76 n_77 s_78 n_79 n_80 i_81 n_82 es_83 (fun z2 => N (f28_p38_mk n_67 n_68 s_70 n_71 n_72 es_73 full_74 s_75 n_76 n_77 s_78 n_79 n_80 i_81 n_82 es_83 z2)) (fun n0_84 s0_85 n0_86 n0_87 => K .ret ⟨mkS 85 [(4, .w (.one (.ptr 0 0 0))), (5, I n0_84)], [.box [.p (pS s0_85), .p (pI n0_86), .p (pI n0_87), .p (.sl 5 [] true)]]⟩) (fun (_ : Unit) => K (.exit 6) ⟨mkS 85 [(2, .w (.one (.ptr 0 0 0))), (4, .w (.one (.ptr 1 0 0))), (7, .w (.one (.ptr 2 0 0))), (9, I n_67), (10, I n_68)], [.box [.p (pS s_70), .p (pI n_71), .p (pI n_72), .p (.sl 5 es_73 full_74)], .box [.p (pS s_75), .p (pI n_76), .p (pI n_77), .p (.sl 5 [] true)], .box [.p (pS s_78), .p (pI n_79), .p (pI n_80), .ref 3 i_81 n_82], .vec 5 es_83 true]⟩)) = execT f28_C (nthC (bodies (bodyOf Tryd.f28)) 3) (f28_p38_mk n_67 n_68 s_70 n_71 n_72 es_73 full_74 s_75 n_76 n_77 s_78 n_79 n_80 i_81 n_82 es_83 n_69) (loopK N (normK f28_C 38) fun e s => K e (normOut f28_C 38 e s)) := by kernel_rfl
noncomputable def f28_p32_mk (n53 : Int) (s55 : ByteArray) (n56 : Int) (n57 : Int) (es58 : List (List PC)) (full59 : Bool) (s60 : ByteArray) (n61 : Int) (n62 : Int) (s63 : ByteArray) (n64 : Int) (n65 : Int) (i66 : Nat) (n67 : Nat) (es68 : List (List PC)) (x : Int) : St := ⟨mkS 85 [(2, .w (.one (.ptr 0 0 0))), (4, .w (.one (.ptr 1 0 0))), (7, .w (.one (.ptr 2 0 0))), (9, I n53), (10, I x)], [.box [.p (pS s55), .p (pI n56), .p (pI n57), .p (.sl 5 es58 full59)], .box [.p (pS s60), .p (pI n61), .p (pI n62), .p (.sl 5 [] true)], .box [.p (pS s63), .p (pI n64), .p (pI n65), .ref 3 i66 n67], .vec 5 es68 true]⟩
set_option maxRecDepth 100000 in
theorem f28_p32e0 (n_104 : Int) (n_105 : Int) (s_106 : ByteArray) (n_107 : Int) (n_108 : Int) (es_109 : List (List PC)) (full_110 : Bool) (s_111 : ByteArray) (n_112 : Int) (n_113 : Int) (s_114 : ByteArray) (n_115 : Int) (n_116 : Int) (i_117 : Nat) (n_118 : Nat) (es_119 : List (List PC)) (N : St → Prop) (K : TExit → St → Prop) : (f28_p32b0 n_104 n_105 s_106 n_107 n_108 es_109 full_110 s_111 n_112 n_113 s_114 n_115 n_116 i_117 n_118 es_119 (fun z1 => N (f28_p32_mk n_104 s_106 n_107 n_108 es_109 full_110 s_111 n_112 n_113 s_114 n_115 n_116 i_117 n_118 es_119 z1)) (fun n0_120 s0_121 n0_122 n0_123 => K .ret ⟨mkS 85 [(4, .w (.one (.ptr 0 0 0))), (5, I n0_120)], [.box [.p (pS s0_121), .p (pI n0_122), .p (pI n0_123), .p (.sl 5 [] true)]]⟩) (fun (_ : Unit) => K (.exit 4) ⟨mkS 85 [(2, .w (.one (.ptr 0 0 0))), (4, .w (.one (.ptr 1 0 0))), (7, .w (.one (.ptr 2 0 0))), (9, I n_104)], [.box [.p (pS s_106), .p (pI n_107), .p (pI n_108), .p (.sl 5 es_109 full_110)], .box [.p (pS s_111), .p (pI n_112), .p (pI n_113), .p (.sl 5 [] true)], .box [.p (pS s_114), .p (pI n_115), .p (pI n_116), .ref 3 i_117 n_118], .vec 5 es_119 true]⟩)) = execT f28_C (nthC (bodies (bodyOf Tryd.f28)) 2) (f28_p32_mk n_104 s_106 n_107 n_108 es_109 full_110 s_111 n_112 n_113 s_114 n_115 n_116 i_117 n_118 es_119 n_105) (loopK N (normK f28_C 32) fun e s => K e (normOut f28_C 32 e s)) := by kernel_rfl
noncomputable def f28_p26_mk (s39 : ByteArray) (n40 : Int) (n41 : Int) (es42 : List (List PC)) (full43 : Bool) (s44 : ByteArray) (n45 : Int) (n46 : Int) (s47 : ByteArray) (n48 : Int) (n49 : Int) (i50 : Nat) (n51 : Nat) (es52 : List (List PC)) (x : Int) : St := ⟨mkS 85 [(2, .w (.one (.ptr 0 0 0))), (4, .w (.one (.ptr 1 0 0))), (7, .w (.one (.ptr 2 0 0))), (9, I x)], [.box [.p (pS s39), .p (pI n40), .p (pI n41), .p (.sl 5 es42 full43)], .box [.p (pS s44), .p (pI n45), .p (pI n46), .p (.sl 5 [] true)], .box [.p (pS s47), .p (pI n48), .p (pI n49), .ref 3 i50 n51], .vec 5 es52 true]⟩
set_option maxRecDepth 100000 in
theorem f28_p26e0 (n_139 : Int) (s_140 : ByteArray) (n_141 : Int) (n_142 : Int) (es_143 : List (List PC)) (full_144 : Bool) (s_145 : ByteArray) (n_146 : Int) (n_147 : Int) (s_148 : ByteArray) (n_149 : Int) (n_150 : Int) (i_151 : Nat) (n_152 : Nat) (es_153 : List (List PC)) (N : St → Prop) (K : TExit → St → Prop) : (f28_p26b0 n_139 s_140 n_141 n_142 es_143 full_144 s_145 n_146 n_147 s_148 n_149 n_150 i_151 n_152 es_153 (fun z0 => N (f28_p26_mk s_140 n_141 n_142 es_143 full_144 s_145 n_146 n_147 s_148 n_149 n_150 i_151 n_152 es_153 z0)) (fun n0_154 s0_155 n0_156 n0_157 => K .ret ⟨mkS 85 [(4, .w (.one (.ptr 0 0 0))), (5, I n0_154)], [.box [.p (pS s0_155), .p (pI n0_156), .p (pI n0_157), .p (.sl 5 [] true)]]⟩) (fun (_ : Unit) => K (.exit 2) ⟨mkS 85 [(4, .w (.one (.ptr 0 0 0))), (7, .w (.one (.ptr 1 0 0)))], [.box [.p (pS s_145), .p (pI n_146), .p (pI n_147), .p (.sl 5 [] true)], .box [.p (pS s_148), .p (pI n_149), .p (pI n_150), .ref 2 i_151 n_152], .vec 5 es_153 true]⟩)) = execT f28_C (nthC (bodies (bodyOf Tryd.f28)) 1) (f28_p26_mk s_140 n_141 n_142 es_143 full_144 s_145 n_146 n_147 s_148 n_149 n_150 i_151 n_152 es_153 n_139) (loopK N (normK f28_C 26) fun e s => K e (normOut f28_C 26 e s)) := by kernel_rfl
set_option maxHeartbeats 4000000 in
theorem f28_p12_ok : LoopOk f28_C (nthC (bodies (bodyOf Tryd.f28)) 0) := by
  refine LoopOk.of f28_p12L (by kernel_rfl) fun σ K h => ?_
  have hk : loopKey (nthC (bodies (bodyOf Tryd.f28)) 0) = 12 := by kernel_rfl
  rw [hk] at h ⊢
  generalize hs : normK f28_C 12 σ = s at h
  obtain ⟨tm, hp⟩ := s
  unfold f28_p12L at h
  dsimp only at h
  obtain ⟨xx, yy, rfl, rfl, h⟩ := getS_elim h
  refine iter_of (f28_p12_mk xx.2.1 yy.1.1 yy.1.2.1 yy.1.2.2.1 yy.1.2.2.2.1.1 yy.1.2.2.2.1.2 yy.2.1.1 yy.2.1.2.1 yy.2.1.2.2.1 yy.2.2.1.1 yy.2.2.1.2.1 yy.2.2.1.2.2.1) (fun x N h => ?_) rounds _ σ (hs.trans (by kernel_rfl)) (LoopP.run h)
  obtain ⟨y0, y1, y2, y3⟩ := x
  rw [← f28_p12e0 xx.2.1 y0 yy.1.1 yy.1.2.1 yy.1.2.2.1 yy.1.2.2.2.1.1 yy.1.2.2.2.1.2 yy.2.1.1 yy.2.1.2.1 yy.2.1.2.2.1 yy.2.2.1.1 yy.2.2.1.2.1 yy.2.2.1.2.2.1 y1 y2 y3 N K]
  exact h
set_option maxHeartbeats 4000000 in
theorem f28_p38_ok : LoopOk f28_C (nthC (bodies (bodyOf Tryd.f28)) 3) := by
  refine LoopOk.of f28_p38L (by kernel_rfl) fun σ K h => ?_
  have hk : loopKey (nthC (bodies (bodyOf Tryd.f28)) 3) = 38 := by kernel_rfl
  rw [hk] at h ⊢
  generalize hs : normK f28_C 38 σ = s at h
  obtain ⟨tm, hp⟩ := s
  unfold f28_p38L at h
  dsimp only at h
  obtain ⟨xx, yy, rfl, rfl, h⟩ := getS_elim h
  refine iter_of (f28_p38_mk xx.2.2.2.2.2.2.2.1 xx.2.2.2.2.2.2.2.2.1 yy.1.1 yy.1.2.1 yy.1.2.2.1 yy.1.2.2.2.1.1 yy.1.2.2.2.1.2 yy.2.1.1 yy.2.1.2.1 yy.2.1.2.2.1 yy.2.2.1.1 yy.2.2.1.2.1 yy.2.2.1.2.2.1 yy.2.2.1.2.2.2.1.1 yy.2.2.1.2.2.2.1.2 yy.2.2.2.1) (fun x N h => ?_) rounds _ σ (hs.trans (by kernel_rfl)) (LoopP.run h)
  rw [← f28_p38e0 xx.2.2.2.2.2.2.2.1 xx.2.2.2.2.2.2.2.2.1 x yy.1.1 yy.1.2.1 yy.1.2.2.1 yy.1.2.2.2.1.1 yy.1.2.2.2.1.2 yy.2.1.1 yy.2.1.2.1 yy.2.1.2.2.1 yy.2.2.1.1 yy.2.2.1.2.1 yy.2.2.1.2.2.1 yy.2.2.1.2.2.2.1.1 yy.2.2.1.2.2.2.1.2 yy.2.2.2.1 N K]
  exact h
set_option maxHeartbeats 4000000 in
theorem f28_p32_ok : LoopOk f28_C (nthC (bodies (bodyOf Tryd.f28)) 2) := by
  refine LoopOk.of f28_p32L (by kernel_rfl) fun σ K h => ?_
  have hk : loopKey (nthC (bodies (bodyOf Tryd.f28)) 2) = 32 := by kernel_rfl
  rw [hk] at h ⊢
  generalize hs : normK f28_C 32 σ = s at h
  obtain ⟨tm, hp⟩ := s
  unfold f28_p32L at h
  dsimp only at h
  obtain ⟨xx, yy, rfl, rfl, h⟩ := getS_elim h
  refine iter_of (f28_p32_mk xx.2.2.2.2.2.2.2.1 yy.1.1 yy.1.2.1 yy.1.2.2.1 yy.1.2.2.2.1.1 yy.1.2.2.2.1.2 yy.2.1.1 yy.2.1.2.1 yy.2.1.2.2.1 yy.2.2.1.1 yy.2.2.1.2.1 yy.2.2.1.2.2.1 yy.2.2.1.2.2.2.1.1 yy.2.2.1.2.2.2.1.2 yy.2.2.2.1) (fun x N h => ?_) rounds _ σ (hs.trans (by kernel_rfl)) (LoopP.run h)
  rw [← f28_p32e0 xx.2.2.2.2.2.2.2.1 x yy.1.1 yy.1.2.1 yy.1.2.2.1 yy.1.2.2.2.1.1 yy.1.2.2.2.1.2 yy.2.1.1 yy.2.1.2.1 yy.2.1.2.2.1 yy.2.2.1.1 yy.2.2.1.2.1 yy.2.2.1.2.2.1 yy.2.2.1.2.2.2.1.1 yy.2.2.1.2.2.2.1.2 yy.2.2.2.1 N K]
  exact h
set_option maxHeartbeats 4000000 in
theorem f28_p26_ok : LoopOk f28_C (nthC (bodies (bodyOf Tryd.f28)) 1) := by
  refine LoopOk.of f28_p26L (by kernel_rfl) fun σ K h => ?_
  have hk : loopKey (nthC (bodies (bodyOf Tryd.f28)) 1) = 26 := by kernel_rfl
  rw [hk] at h ⊢
  generalize hs : normK f28_C 26 σ = s at h
  obtain ⟨tm, hp⟩ := s
  unfold f28_p26L at h
  dsimp only at h
  obtain ⟨xx, yy, rfl, rfl, h⟩ := getS_elim h
  refine iter_of (f28_p26_mk yy.1.1 yy.1.2.1 yy.1.2.2.1 yy.1.2.2.2.1.1 yy.1.2.2.2.1.2 yy.2.1.1 yy.2.1.2.1 yy.2.1.2.2.1 yy.2.2.1.1 yy.2.2.1.2.1 yy.2.2.1.2.2.1 yy.2.2.1.2.2.2.1.1 yy.2.2.1.2.2.2.1.2 yy.2.2.2.1) (fun x N h => ?_) rounds _ σ (hs.trans (by kernel_rfl)) (LoopP.run h)
  rw [← f28_p26e0 x yy.1.1 yy.1.2.1 yy.1.2.2.1 yy.1.2.2.2.1.1 yy.1.2.2.2.1.2 yy.2.1.1 yy.2.1.2.1 yy.2.1.2.2.1 yy.2.2.1.1 yy.2.2.1.2.1 yy.2.2.1.2.2.1 yy.2.2.1.2.2.2.1.1 yy.2.2.1.2.2.2.1.2 yy.2.2.2.1 N K]
  exact h
noncomputable def f28_G0 : List TV → List Entry → (TV → List Entry → Prop) → Prop := fun tm hp K => getS [.v (.pagg [.str, .int .i64, .int .i64, .sl 5]), .v (.one (.str))] [] tm hp fun (xx : ((ByteArray × (Int × (Int × ((List (List PC) × Bool) × Unit)))) × (ByteArray × Unit))) (yy : Unit) => f28 xx.1.1 xx.1.2.1 xx.1.2.2.1 xx.1.2.2.2.1.1 xx.1.2.2.2.1.2 xx.2.1 (fun s0_158 n0_159 n0_160 es0_161 full0_162 n0_163 => K (.tup [.pagg [pS s0_158, pI n0_159, pI n0_160, .sl 5 es0_161 full0_162], .one (.p (pI n0_163))]) [])
set_option maxRecDepth 100000 in
theorem f28_eq (s_164 : ByteArray) (n_165 : Int) (n_166 : Int) (es_167 : List (List PC)) (full_168 : Bool) (s_169 : ByteArray) (K : TV → List Entry → Prop) : (f28_d s_164 n_165 n_166 es_167 full_168 s_169 (fun s0_158 n0_159 n0_160 es0_161 full0_162 n0_163 => K (.tup [.pagg [pS s0_158, pI n0_159, pI n0_160, .sl 5 es0_161 full0_162], .one (.p (pI n0_163))]) [])) = funcT f28_C Tryd.f28 [.w (.pagg [pS s_164, pI n_165, pI n_166, .sl 5 es_167 full_168]), S s_169] [] K := by kernel_rfl
set_option maxHeartbeats 4000000 in
theorem f28_ok0 : FnOk Tryd.prog glob 28 f28_G0 := by
  refine FnOk.of_text (C := f28_C) tab_ok.ok (Known.add f60_G_ok (Known.add f17_G_ok (Known.none))) follows_ok (fn := Tryd.f28) (by kernel_rfl) (by kernel_rfl) (by kernel_rfl) (fun c hc => ?_) fun tm hp K h => ?_
  · have e : c = bodyOf Tryd.f28 := Option.some.inj (hc.symm.trans (by kernel_rfl))
    subst e
    exact ⟨LoopsOk.of [nthC (bodies (bodyOf Tryd.f28)) 0, nthC (bodies (bodyOf Tryd.f28)) 1, nthC (bodies (bodyOf Tryd.f28)) 2, nthC (bodies (bodyOf Tryd.f28)) 3] (by kernel_rfl) ⟨f28_p12_ok, f28_p26_ok, f28_p32_ok, f28_p38_ok, trivial⟩, TailsOk.of (tab := f28_tab) rfl [] (by kernel_rfl) trivial⟩
  · unfold f28_G0 at h
    obtain ⟨xx, yy, rfl, rfl, h⟩ := getS_elim h
    have e := (f28_eq xx.1.1 xx.1.2.1 xx.1.2.2.1 xx.1.2.2.2.1.1 xx.1.2.2.2.1.2 xx.2.1 K).trans (show _ = funcT f28_C Tryd.f28 (mkR _ xx) (mkE _ yy) K by kernel_rfl)
    rw [← e]
    exact h.run
noncomputable abbrev f28_G := f28_G0
theorem f28_G_ok : FnOk Tryd.prog glob 28 f28_G := f28_ok0
end Go.Eng.N
set_option linter.unusedVariables false
set_option maxRecDepth 100000
open Go Go.Eng Go.Proofs
namespace Go.Eng.N
/-! ### f29: plenum/plenumref39.Equal -/
noncomputable def f29_p8b0 (n21 : Int) (s22 : ByteArray) (n23 : Int) (n24 : Int) (es25 : List (List PC)) (full26 : Bool) (s27 : ByteArray) (n28 : Int) (n29 : Int) (es30 : List (List PC)) (full31 : Bool) (N0 : Int → Prop) (k0 : Bool → Prop) (k1 : Unit → Prop) : Prop := bB (decide (n21 < ((es25.length : Nat) : Int))) ((0 ≤ n21 ∧ n21 < ((es25.length : Nat) : Int)) ∧ cS (ext (List.getD es25 (Int.toNat n21) []) 0 5) fun s33 r32 => cI .i64 r32 fun n35 r34 => cI .i64 r34 fun n37 r36 => cI .i64 r36 fun n39 r38 => cI .i64 r38 fun n41 r40 => nilC r40 <| (0 ≤ n21 ∧ n21 < ((es30.length : Nat) : Int)) ∧ cS (ext (List.getD es30 (Int.toNat n21) []) 0 5) fun s43 r42 => cI .i64 r42 fun n45 r44 => cI .i64 r44 fun n47 r46 => cI .i64 r46 fun n49 r48 => cI .i64 r48 fun n51 r50 => nilC r50 <| bB (!((s33 == s43) && ((n35 == n45) && ((n37 == n47) && ((n39 == n49) && ((n41 == n51) && true)))))) (k0 false) (N0 (w64 (n21 + 1)))) (k1 ())
noncomputable def f29_p8 (s22 : ByteArray) (n23 : Int) (n24 : Int) (es25 : List (List PC)) (full26 : Bool) (s27 : ByteArray) (n28 : Int) (n29 : Int) (es30 : List (List PC)) (full31 : Bool) (k0 : Bool → Prop) (k1 : Unit → Prop) : Int → Prop := LoopP fun x N => f29_p8b0 x s22 n23 n24 es25 full26 s27 n28 n29 es30 full31 (fun n21 => N n21) k0 k1
noncomputable def f29_p7 (s11 : ByteArray) (n12 : Int) (n13 : Int) (es14 : List (List PC)) (full15 : Bool) (s16 : ByteArray) (n17 : Int) (n18 : Int) (es19 : List (List PC)) (full20 : Bool) (k0 : Bool → Prop) : Prop := f29_p8 s11 n12 n13 es14 full15 s16 n17 n18 es19 full20 (fun b52 => k0 b52) (fun (_ : Unit) => k0 true) 0
noncomputable def f29_d (s1 : ByteArray) (n2 : Int) (n3 : Int) (es4 : List (List PC)) (full5 : Bool) (s6 : ByteArray) (n7 : Int) (n8 : Int) (es9 : List (List PC)) (full10 : Bool) (k0 : Bool → Prop) : Prop := bB (!(s1.toList == s6.toList)) (k0 false) (bB (n2 != n7) (k0 false) (bB (n3 != n8) (k0 false) (bB (((es4.length : Nat) : Int) != ((es9.length : Nat) : Int)) (k0 false) (f29_p7 s1 n2 n3 es4 full5 s6 n7 n8 es9 full10 (fun b53 => k0 b53)))))
structure f29 (s1 : ByteArray) (n2 : Int) (n3 : Int) (es4 : List (List PC)) (full5 : Bool) (s6 : ByteArray) (n7 : Int) (n8 : Int) (es9 : List (List PC)) (full10 : Bool) (k0 : Bool → Prop) : Prop where
  run : f29_d s1 n2 n3 es4 full5 s6 n7 n8 es9 full10 k0
noncomputable def f29_p8L : Told := fun s K => match s with
  | ⟨tm, hp⟩ => getS [.skip 2, .v (.one (.ptr 0 0 0)), .v (.one (.ptr 1 0 0)), .skip 1, .v (.one (.int .i64)), .skip 46] [.box [.str, .int .i64, .int .i64, .sl 5], .box [.str, .int .i64, .int .i64, .sl 5]] tm hp fun (xx : (Unit × (Unit × (Unit × (Unit × (Int × (Unit × Unit))))))) (yy : ((ByteArray × (Int × (Int × ((List (List PC) × Bool) × Unit)))) × ((ByteArray × (Int × (Int × ((List (List PC) × Bool) × Unit)))) × Unit))) => f29_p8 yy.1.1 yy.1.2.1 yy.1.2.2.1 yy.1.2.2.2.1.1 yy.1.2.2.2.1.2 yy.2.1.1 yy.2.1.2.1 yy.2.1.2.2.1 yy.2.1.2.2.2.1.1 yy.2.1.2.2.2.1.2 (fun b0_0 => K .ret ⟨mkS 52 [(4, B b0_0)], []⟩) (fun (_ : Unit) => K (.exit 0) ⟨mkS 52 [], []⟩) xx.2.2.2.2.1
noncomputable def f29_p7L : Told := fun s K => match s with
  | ⟨tm, hp⟩ => getS [.skip 2, .v (.one (.ptr 0 0 0)), .v (.one (.ptr 1 0 0)), .skip 48] [.box [.str, .int .i64, .int .i64, .sl 5], .box [.str, .int .i64, .int .i64, .sl 5]] tm hp fun (xx : (Unit × (Unit × (Unit × (Unit × Unit))))) (yy : ((ByteArray × (Int × (Int × ((List (List PC) × Bool) × Unit)))) × ((ByteArray × (Int × (Int × ((List (List PC) × Bool) × Unit)))) × Unit))) => f29_p7 yy.1.1 yy.1.2.1 yy.1.2.2.1 yy.1.2.2.2.1.1 yy.1.2.2.2.1.2 yy.2.1.1 yy.2.1.2.1 yy.2.1.2.2.1 yy.2.1.2.2.2.1.1 yy.2.1.2.2.2.1.2 (fun b0_1 => K .ret ⟨mkS 52 [(4, B b0_1)], []⟩)
noncomputable def f29_tab : List (Nat × Told) := [(8, f29_p8L), (7, f29_p7L)]
noncomputable def f29_call : FuncId → List TV → List Entry → (TV → List Entry → Prop) → Prop := noCalls
noncomputable def f29_C : Ctx := { ty := tyOf tab, glob := glob, byRef := byRef, keep := fun k i => lookN [] (lookN [] ([(8, [(0, [2, 3, 5]), (2, [4]), (3, [])]), (7, [(0, [2, 3]), (1, [4]), (2, [4])])] : List (Nat × List (Nat × List Nat))) k) i, late := lookN [] ([] : List (Nat × List Nat)), nref := lookN [] ([] : List (Nat × List Nat)), nbox := lookN [] ([] : List (Nat × List (Nat × Nat))), take := [], rnil := false, m := 0, fz := true, loops := lookL f29_tab, call := f29_call }
noncomputable def f29_p8_mk (s22 : ByteArray) (n23 : Int) (n24 : Int) (es25 : List (List PC)) (full26 : Bool) (s27 : ByteArray) (n28 : Int) (n29 : Int) (es30 : List (List PC)) (full31 : Bool) (x : Int) : St := ⟨mkS 52 [(2, .w (.one (.ptr 0 0 0))), (3, .w (.one (.ptr 1 0 0))), (5, I x)], [.box [.p (pS s22), .p (pI n23), .p (pI n24), .p (.sl 5 es25 full26)], .box [.p (pS s27), .p (pI n28), .p (pI n29), .p (.sl 5 es30 full31)]]⟩
set_option maxRecDepth 100000 in
theorem f29_p8e0 (n_13 : Int) (s_14 : ByteArray) (n_15 : Int) (n_16 : Int) (es_17 : List (List PC)) (full_18 : Bool) (s_19 : ByteArray) (n_20 : Int) (n_21 : Int) (es_22 : List (List PC)) (full_23 : Bool) (N : St → Prop) (K : TExit → St → Prop) : (f29_p8b0 n_13 s_14 n_15 n_16 es_17 full_18 s_19 n_20 n_21 es_22 full_23 (fun z0 => N (f29_p8_mk s_14 n_15 n_16 es_17 full_18 s_19 n_20 n_21 es_22 full_23 z0)) (fun b0_24 => K .ret ⟨mkS 52 [(4, B b0_24)], []⟩) (fun (_ : Unit) => K (.exit 0) ⟨mkS 52 [], []⟩)) = execT f29_C (nthC (bodies (bodyOf Tryd.f29)) 0) (f29_p8_mk s_14 n_15 n_16 es_17 full_18 s_19 n_20 n_21 es_22 full_23 n_13) (loopK N (normK f29_C 8) fun e s => K e (normOut f29_C 8 e s)) := by kernel_rfl
set_option maxRecDepth 100000 in
theorem f29_p7e0 (s_25 : ByteArray) (n_26 : Int) (n_27 : Int) (es_28 : List (List PC)) (full_29 : Bool) (s_30 : ByteArray) (n_31 : Int) (n_32 : Int) (es_33 : List (List PC)) (full_34 : Bool) (K : TExit → St → Prop) : (f29_p7 s_25 n_26 n_27 es_28 full_29 s_30 n_31 n_32 es_33 full_34 (fun b0_35 => K .ret ⟨mkS 52 [(4, B b0_35)], []⟩)) = execT f29_C (nthC (tails (bodyOf Tryd.f29)) 1) ⟨mkS 52 [(2, .w (.one (.ptr 0 0 0))), (3, .w (.one (.ptr 1 0 0)))], [.box [.p (pS s_25), .p (pI n_26), .p (pI n_27), .p (.sl 5 es_28 full_29)], .box [.p (pS s_30), .p (pI n_31), .p (pI n_32), .p (.sl 5 es_33 full_34)]]⟩ (fun e s => K e (normOut f29_C 7 e s)) := by kernel_rfl
set_option maxHeartbeats 4000000 in
theorem f29_p8_ok : LoopOk f29_C (nthC (bodies (bodyOf Tryd.f29)) 0) := by
  refine LoopOk.of f29_p8L (by kernel_rfl) fun σ K h => ?_
  have hk : loopKey (nthC (bodies (bodyOf Tryd.f29)) 0) = 8 := by kernel_rfl
  rw [hk] at h ⊢
  generalize hs : normK f29_C 8 σ = s at h
  obtain ⟨tm, hp⟩ := s
  unfold f29_p8L at h
  dsimp only at h
  obtain ⟨xx, yy, rfl, rfl, h⟩ := getS_elim h
  refine iter_of (f29_p8_mk yy.1.1 yy.1.2.1 yy.1.2.2.1 yy.1.2.2.2.1.1 yy.1.2.2.2.1.2 yy.2.1.1 yy.2.1.2.1 yy.2.1.2.2.1 yy.2.1.2.2.2.1.1 yy.2.1.2.2.2.1.2) (fun x N h => ?_) rounds _ σ (hs.trans (by kernel_rfl)) (LoopP.run h)
  rw [← f29_p8e0 x yy.1.1 yy.1.2.1 yy.1.2.2.1 yy.1.2.2.2.1.1 yy.1.2.2.2.1.2 yy.2.1.1 yy.2.1.2.1 yy.2.1.2.2.1 yy.2.1.2.2.2.1.1 yy.2.1.2.2.2.1.2 N K]
  exact h
set_option maxHeartbeats 4000000 in
theorem f29_p7_ok : TailOk f29_C (nthC (tails (bodyOf Tryd.f29)) 1) := by
  refine TailOk.of f29_p7L (by kernel_rfl) fun σ K h => ?_
  have hk : joinKey (nthC (tails (bodyOf Tryd.f29)) 1) = 7 := by kernel_rfl
  rw [hk] at h ⊢
  generalize hs : normK f29_C 7 σ = s at h
  obtain ⟨tm, hp⟩ := s
  unfold f29_p7L at h
  dsimp only at h
  obtain ⟨xx, yy, rfl, rfl, h⟩ := getS_elim h
  have q : normK f29_C 7 σ = (⟨mkS 52 [(2, .w (.one (.ptr 0 0 0))), (3, .w (.one (.ptr 1 0 0)))], [.box [.p (pS yy.1.1), .p (pI yy.1.2.1), .p (pI yy.1.2.2.1), .p (.sl 5 yy.1.2.2.2.1.1 yy.1.2.2.2.1.2)], .box [.p (pS yy.2.1.1), .p (pI yy.2.1.2.1), .p (pI yy.2.1.2.2.1), .p (.sl 5 yy.2.1.2.2.2.1.1 yy.2.1.2.2.2.1.2)]]⟩ : St) := hs.trans (by kernel_rfl)
  rw [← hs, q, ← f29_p7e0 yy.1.1 yy.1.2.1 yy.1.2.2.1 yy.1.2.2.2.1.1 yy.1.2.2.2.1.2 yy.2.1.1 yy.2.1.2.1 yy.2.1.2.2.1 yy.2.1.2.2.2.1.1 yy.2.1.2.2.2.1.2 K]
  exact h
noncomputable def f29_G0 : List TV → List Entry → (TV → List Entry → Prop) → Prop := fun tm hp K => getS [.v (.pagg [.str, .int .i64, .int .i64, .sl 5]), .v (.pagg [.str, .int .i64, .int .i64, .sl 5])] [] tm hp fun (xx : ((ByteArray × (Int × (Int × ((List (List PC) × Bool) × Unit)))) × ((ByteArray × (Int × (Int × ((List (List PC) × Bool) × Unit)))) × Unit))) (yy : Unit) => f29 xx.1.1 xx.1.2.1 xx.1.2.2.1 xx.1.2.2.2.1.1 xx.1.2.2.2.1.2 xx.2.1.1 xx.2.1.2.1 xx.2.1.2.2.1 xx.2.1.2.2.2.1.1 xx.2.1.2.2.2.1.2 (fun b0_36 => K (B b0_36) [])
set_option maxRecDepth 100000 in
theorem f29_eq (s_37 : ByteArray) (n_38 : Int) (n_39 : Int) (es_40 : List (List PC)) (full_41 : Bool) (s_42 : ByteArray) (n_43 : Int) (n_44 : Int) (es_45 : List (List PC)) (full_46 : Bool) (K : TV → List Entry → Prop) : (f29_d s_37 n_38 n_39 es_40 full_41 s_42 n_43 n_44 es_45 full_46 (fun b0_36 => K (B b0_36) [])) = funcT f29_C Tryd.f29 [.w (.pagg [pS s_37, pI n_38, pI n_39, .sl 5 es_40 full_41]), .w (.pagg [pS s_42, pI n_43, pI n_44, .sl 5 es_45 full_46])] [] K := by kernel_rfl
set_option maxHeartbeats 4000000 in
theorem f29_ok0 : FnOk Tryd.prog glob 29 f29_G0 := by
  refine FnOk.of_text (C := f29_C) tab_ok.ok (Known.none) follows_ok (fn := Tryd.f29) (by kernel_rfl) (by kernel_rfl) (by kernel_rfl) (fun c hc => ?_) fun tm hp K h => ?_
  · have e : c = bodyOf Tryd.f29 := Option.some.inj (hc.symm.trans (by kernel_rfl))
    subst e
    exact ⟨LoopsOk.of [nthC (bodies (bodyOf Tryd.f29)) 0] (by kernel_rfl) ⟨f29_p8_ok, trivial⟩, TailsOk.of (tab := f29_tab) rfl [nthC (tails (bodyOf Tryd.f29)) 1] (by kernel_rfl) ⟨f29_p7_ok, trivial⟩⟩
  · unfold f29_G0 at h
    obtain ⟨xx, yy, rfl, rfl, h⟩ := getS_elim h
    have e := (f29_eq xx.1.1 xx.1.2.1 xx.1.2.2.1 xx.1.2.2.2.1.1 xx.1.2.2.2.1.2 xx.2.1.1 xx.2.1.2.1 xx.2.1.2.2.1 xx.2.1.2.2.2.1.1 xx.2.1.2.2.2.1.2 K).trans (show _ = funcT f29_C Tryd.f29 (mkR _ xx) (mkE _ yy) K by kernel_rfl)
    rw [← e]
    exact h.run
noncomputable abbrev f29_G := f29_G0
theorem f29_G_ok : FnOk Tryd.prog glob 29 f29_G := f29_ok0
end Go.Eng.N
set_option linter.unusedVariables false
set_option maxRecDepth 100000
open Go Go.Eng Go.Proofs
namespace Go.Eng.N
/-! ### f13: plenum/plenumref39.Small -/
noncomputable def f13_p8b0 (n11 : Int) (s12 : ByteArray) (n13 : Int) (n14 : Int) (es15 : List (List PC)) (full16 : Bool) (N0 : Int → Prop) (k0 : Bool → Prop) (k1 : Unit → Prop) : Prop := bB (decide (n11 < ((es15.length : Nat) : Int))) ((0 ≤ n11 ∧ n11 < ((es15.length : Nat) : Int)) ∧ oS (ext (List.getD es15 (Int.toNat n11) []) 0 1) fun s17 => bB (decide (((s17.size : Nat) : Int) > 60)) (k0 false) (N0 (w64 (n11 + 1)))) (k1 ())
noncomputable def f13_p8 (s12 : ByteArray) (n13 : Int) (n14 : Int) (es15 : List (List PC)) (full16 : Bool) (k0 : Bool → Prop) (k1 : Unit → Prop) : Int → Prop := LoopP fun x N => f13_p8b0 x s12 n13 n14 es15 full16 (fun n11 => N n11) k0 k1
noncomputable def f13_p7 (s6 : ByteArray) (n7 : Int) (n8 : Int) (es9 : List (List PC)) (full10 : Bool) (k0 : Bool → Prop) : Prop := f13_p8 s6 n7 n8 es9 full10 (fun b18 => k0 b18) (fun (_ : Unit) => k0 true) 0
noncomputable def f13_d (s1 : ByteArray) (n2 : Int) (n3 : Int) (es4 : List (List PC)) (full5 : Bool) (k0 : Bool → Prop) : Prop := bB (decide (((es4.length : Nat) : Int) > 12)) (k0 false) (bB (decide (((s1.size : Nat) : Int) > 60)) (k0 false) (f13_p7 s1 n2 n3 es4 full5 (fun b19 => k0 b19)))
structure f13 (s1 : ByteArray) (n2 : Int) (n3 : Int) (es4 : List (List PC)) (full5 : Bool) (k0 : Bool → Prop) : Prop where
  run : f13_d s1 n2 n3 es4 full5 k0
noncomputable def f13_p8L : Told := fun s K => match s with
  | ⟨tm, hp⟩ => getS [.skip 1, .v (.one (.ptr 0 0 0)), .skip 1, .v (.one (.int .i64)), .skip 25] [.box [.str, .int .i64, .int .i64, .sl 5]] tm hp fun (xx : (Unit × (Unit × (Unit × (Int × (Unit × Unit)))))) (yy : ((ByteArray × (Int × (Int × ((List (List PC) × Bool) × Unit)))) × Unit)) => f13_p8 yy.1.1 yy.1.2.1 yy.1.2.2.1 yy.1.2.2.2.1.1 yy.1.2.2.2.1.2 (fun b0_0 => K .ret ⟨mkS 29 [(2, B b0_0)], []⟩) (fun (_ : Unit) => K (.exit 0) ⟨mkS 29 [], []⟩) xx.2.2.2.1
noncomputable def f13_p7L : Told := fun s K => match s with
  | ⟨tm, hp⟩ => getS [.skip 1, .v (.one (.ptr 0 0 0)), .skip 27] [.box [.str, .int .i64, .int .i64, .sl 5]] tm hp fun (xx : (Unit × (Unit × (Unit × Unit)))) (yy : ((ByteArray × (Int × (Int × ((List (List PC) × Bool) × Unit)))) × Unit)) => f13_p7 yy.1.1 yy.1.2.1 yy.1.2.2.1 yy.1.2.2.2.1.1 yy.1.2.2.2.1.2 (fun b0_1 => K .ret ⟨mkS 29 [(2, B b0_1)], []⟩)
noncomputable def f13_tab : List (Nat × Told) := [(8, f13_p8L), (7, f13_p7L)]
noncomputable def f13_call : FuncId → List TV → List Entry → (TV → List Entry → Prop) → Prop := noCalls
noncomputable def f13_C : Ctx := { ty := tyOf tab, glob := glob, byRef := byRef, keep := fun k i => lookN [] (lookN [] ([(8, [(0, [1, 3]), (2, [2]), (3, [])]), (7, [(0, [1]), (1, [2]), (2, [2])])] : List (Nat × List (Nat × List Nat))) k) i, late := lookN [] ([] : List (Nat × List Nat)), nref := lookN [] ([] : List (Nat × List Nat)), nbox := lookN [] ([] : List (Nat × List (Nat × Nat))), take := [], rnil := false, m := 0, fz := true, loops := lookL f13_tab, call := f13_call }
noncomputable def f13_p8_mk (s12 : ByteArray) (n13 : Int) (n14 : Int) (es15 : List (List PC)) (full16 : Bool) (x : Int) : St := ⟨mkS 29 [(1, .w (.one (.ptr 0 0 0))), (3, I x)], [.box [.p (pS s12), .p (pI n13), .p (pI n14), .p (.sl 5 es15 full16)]]⟩
set_option maxRecDepth 100000 in
theorem f13_p8e0 (n_8 : Int) (s_9 : ByteArray) (n_10 : Int) (n_11 : Int) (es_12 : List (List PC)) (full_13 : Bool) (N : St → Prop) (K : TExit → St → Prop) : (f13_p8b0 n_8 s_9 n_10 n_11 es_12 full_13 (fun z0 => N (f13_p8_mk s_9 n_10 n_11 es_12 full_13 z0)) (fun b0_14 => K .ret ⟨mkS 29 [(2, B b0_14)], []⟩) (fun (_ : Unit) => K (.exit 0) ⟨mkS 29 [], []⟩)) = execT f13_C (nthC (bodies (bodyOf Tryd.f13)) 0) (f13_p8_mk s_9 n_10 n_11 es_12 full_13 n_8) (loopK N (normK f13_C 8) fun e s => K e (normOut f13_C 8 e s)) := by kernel_rfl
set_option maxRecDepth 100000 in
theorem f13_p7e0 (s_15 : ByteArray) (n_16 : Int) (n_17 : Int) (es_18 : List (List PC)) (full_19 : Bool) (K : TExit → St → Prop) : (f13_p7 s_15 n_16 n_17 es_18 full_19 (fun b0_20 => K .ret ⟨mkS 29 [(2, B b0_20)], []⟩)) = execT f13_C (nthC (tails (bodyOf Tryd.f13)) 1) ⟨mkS 29 [(1, .w (.one (.ptr 0 0 0)))], [.box [.p (pS s_15), .p (pI n_16), .p (pI n_17), .p (.sl 5 es_18 full_19)]]⟩ (fun e s => K e (normOut f13_C 7 e s)) := by kernel_rfl
set_option maxHeartbeats 4000000 in
theorem f13_p8_ok : LoopOk f13_C (nthC (bodies (bodyOf Tryd.f13)) 0) := by
  refine LoopOk.of f13_p8L (by kernel_rfl) fun σ K h => ?_
  have hk : loopKey (nthC (bodies (bodyOf Tryd.f13)) 0) = 8 := by kernel_rfl
  rw [hk] at h ⊢
  generalize hs : normK f13_C 8 σ = s at h
  obtain ⟨tm, hp⟩ := s
  unfold f13_p8L at h
  dsimp only at h
  obtain ⟨xx, yy, rfl, rfl, h⟩ := getS_elim h
  refine iter_of (f13_p8_mk yy.1.1 yy.1.2.1 yy.1.2.2.1 yy.1.2.2.2.1.1 yy.1.2.2.2.1.2) (fun x N h => ?_) rounds _ σ (hs.trans (by kernel_rfl)) (LoopP.run h)
  rw [← f13_p8e0 x yy.1.1 yy.1.2.1 yy.1.2.2.1 yy.1.2.2.2.1.1 yy.1.2.2.2.1.2 N K]
  exact h
set_option maxHeartbeats 4000000 in
theorem f13_p7_ok : TailOk f13_C (nthC (tails (bodyOf Tryd.f13)) 1) := by
  refine TailOk.of f13_p7L (by kernel_rfl) fun σ K h => ?_
  have hk : joinKey (nthC (tails (bodyOf Tryd.f13)) 1) = 7 := by kernel_rfl
  rw [hk] at h ⊢
  generalize hs : normK f13_C 7 σ = s at h
  obtain ⟨tm, hp⟩ := s
  unfold f13_p7L at h
  dsimp only at h
  obtain ⟨xx, yy, rfl, rfl, h⟩ := getS_elim h
  have q : normK f13_C 7 σ = (⟨mkS 29 [(1, .w (.one (.ptr 0 0 0)))], [.box [.p (pS yy.1.1), .p (pI yy.1.2.1), .p (pI yy.1.2.2.1), .p (.sl 5 yy.1.2.2.2.1.1 yy.1.2.2.2.1.2)]]⟩ : St) := hs.trans (by kernel_rfl)
  rw [← hs, q, ← f13_p7e0 yy.1.1 yy.1.2.1 yy.1.2.2.1 yy.1.2.2.2.1.1 yy.1.2.2.2.1.2 K]
  exact h
noncomputable def f13_G0 : List TV → List Entry → (TV → List Entry → Prop) → Prop := fun tm hp K => getS [.v (.pagg [.str, .int .i64, .int .i64, .sl 5])] [] tm hp fun (xx : ((ByteArray × (Int × (Int × ((List (List PC) × Bool) × Unit)))) × Unit)) (yy : Unit) => f13 xx.1.1 xx.1.2.1 xx.1.2.2.1 xx.1.2.2.2.1.1 xx.1.2.2.2.1.2 (fun b0_21 => K (B b0_21) [])
set_option maxRecDepth 100000 in
theorem f13_eq (s_22 : ByteArray) (n_23 : Int) (n_24 : Int) (es_25 : List (List PC)) (full_26 : Bool) (K : TV → List Entry → Prop) : (f13_d s_22 n_23 n_24 es_25 full_26 (fun b0_21 => K (B b0_21) [])) = funcT f13_C Tryd.f13 [.w (.pagg [pS s_22, pI n_23, pI n_24, .sl 5 es_25 full_26])] [] K := by kernel_rfl
set_option maxHeartbeats 4000000 in
theorem f13_ok0 : FnOk Tryd.prog glob 13 f13_G0 := by
  refine FnOk.of_text (C := f13_C) tab_ok.ok (Known.none) follows_ok (fn := Tryd.f13) (by kernel_rfl) (by kernel_rfl) (by kernel_rfl) (fun c hc => ?_) fun tm hp K h => ?_
  · have e : c = bodyOf Tryd.f13 := Option.some.inj (hc.symm.trans (by kernel_rfl))
    subst e
    exact ⟨LoopsOk.of [nthC (bodies (bodyOf Tryd.f13)) 0] (by kernel_rfl) ⟨f13_p8_ok, trivial⟩, TailsOk.of (tab := f13_tab) rfl [nthC (tails (bodyOf Tryd.f13)) 1] (by kernel_rfl) ⟨f13_p7_ok, trivial⟩⟩
  · unfold f13_G0 at h
    obtain ⟨xx, yy, rfl, rfl, h⟩ := getS_elim h
    have e := (f13_eq xx.1.1 xx.1.2.1 xx.1.2.2.1 xx.1.2.2.2.1.1 xx.1.2.2.2.1.2 K).trans (show _ = funcT f13_C Tryd.f13 (mkR _ xx) (mkE _ yy) K by kernel_rfl)
    rw [← e]
    exact h.run
noncomputable abbrev f13_G := f13_G0
theorem f13_G_ok : FnOk Tryd.prog glob 13 f13_G := f13_ok0
end Go.Eng.N
set_option linter.unusedVariables false
set_option maxRecDepth 100000
open Go Go.Eng Go.Proofs
namespace Go.Eng.N
/-! ### f23: plenum/plenumlaw39.list -/
noncomputable def f23_p8b0 (es5 : List (List PC)) (full6 : Bool) (es7 : List (List PC)) (full8 : Bool) (n9 : Int) (N0 : Int → Prop) (k0 : Bool → Prop) (k1 : Unit → Prop) : Prop := bB (decide (n9 < ((es5.length : Nat) : Int))) ((0 ≤ n9 ∧ n9 < ((es5.length : Nat) : Int)) ∧ oS (ext (List.getD es5 (Int.toNat n9) []) 0 1) fun s10 => (0 ≤ n9 ∧ n9 < ((es7.length : Nat) : Int)) ∧ oS (ext (List.getD es7 (Int.toNat n9) []) 0 1) fun s11 => bB (!(s10.toList == s11.toList)) (k0 false) (N0 (w64 (n9 + 1)))) (k1 ())
noncomputable def f23_p8 (es5 : List (List PC)) (full6 : Bool) (es7 : List (List PC)) (full8 : Bool) (k0 : Bool → Prop) (k1 : Unit → Prop) : Int → Prop := LoopP fun x N => f23_p8b0 es5 full6 es7 full8 x (fun n9 => N n9) k0 k1
noncomputable def f23_d (es1 : List (List PC)) (full2 : Bool) (es3 : List (List PC)) (full4 : Bool) (k0 : Bool → Prop) : Prop := bB (((es1.length : Nat) : Int) != ((es3.length : Nat) : Int)) (k0 false) (f23_p8 es1 full2 es3 full4 (fun b12 => k0 b12) (fun (_ : Unit) => k0 true) 0)
structure f23 (es1 : List (List PC)) (full2 : Bool) (es3 : List (List PC)) (full4 : Bool) (k0 : Bool → Prop) : Prop where
  run : f23_d es1 full2 es3 full4 k0
noncomputable def f23_p8L : Told := fun s K => match s with
  | ⟨tm, hp⟩ => getS [.v (.one (.sl 1)), .v (.one (.sl 1)), .skip 3, .v (.one (.int .i64)), .skip 20] [] tm hp fun (xx : ((List (List PC) × Bool) × ((List (List PC) × Bool) × (Unit × (Int × (Unit × Unit)))))) (yy : Unit) => f23_p8 xx.1.1 xx.1.2 xx.2.1.1 xx.2.1.2 (fun b0_0 => K .ret ⟨mkS 26 [(4, B b0_0)], []⟩) (fun (_ : Unit) => K (.exit 0) ⟨mkS 26 [], []⟩) xx.2.2.2.1
noncomputable def f23_tab : List (Nat × Told) := [(8, f23_p8L)]
noncomputable def f23_call : FuncId → List TV → List Entry → (TV → List Entry → Prop) → Prop := noCalls
noncomputable def f23_C : Ctx := { ty := tyOf tab, glob := glob, byRef := byRef, keep := fun k i => lookN [] (lookN [] ([(8, [(0, [0, 1, 5]), (2, [4]), (3, [])])] : List (Nat × List (Nat × List Nat))) k) i, late := lookN [] ([] : List (Nat × List Nat)), nref := lookN [] ([] : List (Nat × List Nat)), nbox := lookN [] ([] : List (Nat × List (Nat × Nat))), take := [], rnil := false, m := 0, fz := true, loops := lookL f23_tab, call := f23_call }
noncomputable def f23_p8_mk (es5 : List (List PC)) (full6 : Bool) (es7 : List (List PC)) (full8 : Bool) (x : Int) : St := ⟨mkS 26 [(0, .w (.one (.p (.sl 1 es5 full6)))), (1, .w (.one (.p (.sl 1 es7 full8)))), (5, I x)], []⟩
set_option maxRecDepth 100000 in
theorem f23_p8e0 (es_6 : List (List PC)) (full_7 : Bool) (es_8 : List (List PC)) (full_9 : Bool) (n_10 : Int) (N : St → Prop) (K : TExit → St → Prop) : (f23_p8b0 es_6 full_7 es_8 full_9 n_10 (fun z4 => N (f23_p8_mk es_6 full_7 es_8 full_9 z4)) (fun b0_11 => K .ret ⟨mkS 26 [(4, B b0_11)], []⟩) (fun (_ : Unit) => K (.exit 0) ⟨mkS 26 [], []⟩)) = execT f23_C (nthC (bodies (bodyOf Tryd.f23)) 0) (f23_p8_mk es_6 full_7 es_8 full_9 n_10) (loopK N (normK f23_C 8) fun e s => K e (normOut f23_C 8 e s)) := by kernel_rfl
set_option maxHeartbeats 4000000 in
theorem f23_p8_ok : LoopOk f23_C (nthC (bodies (bodyOf Tryd.f23)) 0) := by
  refine LoopOk.of f23_p8L (by kernel_rfl) fun σ K h => ?_
  have hk : loopKey (nthC (bodies (bodyOf Tryd.f23)) 0) = 8 := by kernel_rfl
  rw [hk] at h ⊢
  generalize hs : normK f23_C 8 σ = s at h
  obtain ⟨tm, hp⟩ := s
  unfold f23_p8L at h
  dsimp only at h
  obtain ⟨xx, yy, rfl, rfl, h⟩ := getS_elim h
  refine iter_of (f23_p8_mk xx.1.1 xx.1.2 xx.2.1.1 xx.2.1.2) (fun x N h => ?_) rounds _ σ (hs.trans (by kernel_rfl)) (LoopP.run h)
  rw [← f23_p8e0 xx.1.1 xx.1.2 xx.2.1.1 xx.2.1.2 x N K]
  exact h
noncomputable def f23_G0 : List TV → List Entry → (TV → List Entry → Prop) → Prop := fun tm hp K => getS [.v (.one (.sl 1)), .v (.one (.sl 1))] [] tm hp fun (xx : ((List (List PC) × Bool) × ((List (List PC) × Bool) × Unit))) (yy : Unit) => f23 xx.1.1 xx.1.2 xx.2.1.1 xx.2.1.2 (fun b0_12 => K (B b0_12) [])
set_option maxRecDepth 100000 in
theorem f23_eq (es_13 : List (List PC)) (full_14 : Bool) (es_15 : List (List PC)) (full_16 : Bool) (K : TV → List Entry → Prop) : (f23_d es_13 full_14 es_15 full_16 (fun b0_12 => K (B b0_12) [])) = funcT f23_C Tryd.f23 [.w (.one (.p (.sl 1 es_13 full_14))), .w (.one (.p (.sl 1 es_15 full_16)))] [] K := by kernel_rfl
set_option maxHeartbeats 4000000 in
theorem f23_ok0 : FnOk Tryd.prog glob 23 f23_G0 := by
  refine FnOk.of_text (C := f23_C) tab_ok.ok (Known.none) follows_ok (fn := Tryd.f23) (by kernel_rfl) (by kernel_rfl) (by kernel_rfl) (fun c hc => ?_) fun tm hp K h => ?_
  · have e : c = bodyOf Tryd.f23 := Option.some.inj (hc.symm.trans (by kernel_rfl))
    subst e
    exact ⟨LoopsOk.of [nthC (bodies (bodyOf Tryd.f23)) 0] (by kernel_rfl) ⟨f23_p8_ok, trivial⟩, TailsOk.of (tab := f23_tab) rfl [] (by kernel_rfl) trivial⟩
  · unfold f23_G0 at h
    obtain ⟨xx, yy, rfl, rfl, h⟩ := getS_elim h
    have e := (f23_eq xx.1.1 xx.1.2 xx.2.1.1 xx.2.1.2 K).trans (show _ = funcT f23_C Tryd.f23 (mkR _ xx) (mkE _ yy) K by kernel_rfl)
    rw [← e]
    exact h.run
noncomputable abbrev f23_G := f23_G0
theorem f23_G_ok : FnOk Tryd.prog glob 23 f23_G := f23_ok0
end Go.Eng.N
set_option linter.unusedVariables false
set_option maxRecDepth 100000
open Go Go.Eng Go.Proofs
namespace Go.Eng.N
/-! ### f24: plenum/plenumlaw39.same -/
noncomputable def f24_p8b0 (es5 : List (List PC)) (full6 : Bool) (es7 : List (List PC)) (full8 : Bool) (n9 : Int) (N0 : Int → Prop) (k0 : Bool → Prop) (k1 : Unit → Prop) : Prop := bB (decide (n9 < ((es5.length : Nat) : Int))) ((0 ≤ n9 ∧ n9 < ((es5.length : Nat) : Int)) ∧ oS (ext (List.getD es5 (Int.toNat n9) []) 0 1) fun s10 => (0 ≤ n9 ∧ n9 < ((es7.length : Nat) : Int)) ∧ oS (ext (List.getD es7 (Int.toNat n9) []) 0 1) fun s11 => bB (!(s10.toList == s11.toList)) (k0 false) ((0 ≤ n9 ∧ n9 < ((es5.length : Nat) : Int)) ∧ cI .i64 (ext (List.getD es5 (Int.toNat n9) []) 1 7) fun n13 r12 => cS r12 fun s15 r14 => cI .i64 r14 fun n17 r16 => cI .i64 r16 fun n19 r18 => cI .i64 r18 fun n21 r20 => cI .i64 r20 fun n23 r22 => cI .i64 r22 fun n25 r24 => nilC r24 <| (0 ≤ n9 ∧ n9 < ((es7.length : Nat) : Int)) ∧ cI .i64 (ext (List.getD es7 (Int.toNat n9) []) 1 7) fun n27 r26 => cS r26 fun s29 r28 => cI .i64 r28 fun n31 r30 => cI .i64 r30 fun n33 r32 => cI .i64 r32 fun n35 r34 => cI .i64 r34 fun n37 r36 => cI .i64 r36 fun n39 r38 => nilC r38 <| bB (!((n13 == n27) && ((s15 == s29) && ((n17 == n31) && ((n19 == n33) && ((n21 == n35) && ((n23 == n37) && ((n25 == n39) && true)))))))) (k0 false) ((0 ≤ n9 ∧ n9 < ((es5.length : Nat) : Int)) ∧ oI .i64 (ext (List.getD es5 (Int.toNat n9) []) 8 1) fun n40 => (0 ≤ n9 ∧ n9 < ((es7.length : Nat) : Int)) ∧ oI .i64 (ext (List.getD es7 (Int.toNat n9) []) 8 1) fun n41 => bB (n40 != n41) (k0 false) ((0 ≤ n9 ∧ n9 < ((es5.length : Nat) : Int)) ∧ oB (ext (List.getD es5 (Int.toNat n9) []) 9 1) fun b42 => (0 ≤ n9 ∧ n9 < ((es7.length : Nat) : Int)) ∧ oB (ext (List.getD es7 (Int.toNat n9) []) 9 1) fun b43 => bB (!(b42 == b43)) (k0 false) (N0 (w64 (n9 + 1))))))) (k1 ())
noncomputable def f24_p8 (es5 : List (List PC)) (full6 : Bool) (es7 : List (List PC)) (full8 : Bool) (k0 : Bool → Prop) (k1 : Unit → Prop) : Int → Prop := LoopP fun x N => f24_p8b0 es5 full6 es7 full8 x (fun n9 => N n9) k0 k1
noncomputable def f24_d (es1 : List (List PC)) (full2 : Bool) (es3 : List (List PC)) (full4 : Bool) (k0 : Bool → Prop) : Prop := bB (((es1.length : Nat) : Int) != ((es3.length : Nat) : Int)) (k0 false) (f24_p8 es1 full2 es3 full4 (fun b44 => k0 b44) (fun (_ : Unit) => k0 true) 0)
structure f24 (es1 : List (List PC)) (full2 : Bool) (es3 : List (List PC)) (full4 : Bool) (k0 : Bool → Prop) : Prop where
  run : f24_d es1 full2 es3 full4 k0
noncomputable def f24_p8L : Told := fun s K => match s with
  | ⟨tm, hp⟩ => getS [.v (.one (.sl 10)), .v (.one (.sl 10)), .skip 3, .v (.one (.int .i64)), .skip 61] [] tm hp fun (xx : ((List (List PC) × Bool) × ((List (List PC) × Bool) × (Unit × (Int × (Unit × Unit)))))) (yy : Unit) => f24_p8 xx.1.1 xx.1.2 xx.2.1.1 xx.2.1.2 (fun b0_0 => K .ret ⟨mkS 67 [(4, B b0_0)], []⟩) (fun (_ : Unit) => K (.exit 0) ⟨mkS 67 [], []⟩) xx.2.2.2.1
noncomputable def f24_tab : List (Nat × Told) := [(8, f24_p8L)]
noncomputable def f24_call : FuncId → List TV → List Entry → (TV → List Entry → Prop) → Prop := noCalls
noncomputable def f24_C : Ctx := { ty := tyOf tab, glob := glob, byRef := byRef, keep := fun k i => lookN [] (lookN [] ([(8, [(0, [0, 1, 5]), (2, [4]), (3, [])])] : List (Nat × List (Nat × List Nat))) k) i, late := lookN [] ([] : List (Nat × List Nat)), nref := lookN [] ([] : List (Nat × List Nat)), nbox := lookN [] ([] : List (Nat × List (Nat × Nat))), take := [], rnil := false, m := 0, fz := true, loops := lookL f24_tab, call := f24_call }
noncomputable def f24_p8_mk (es5 : List (List PC)) (full6 : Bool) (es7 : List (List PC)) (full8 : Bool) (x : Int) : St := ⟨mkS 67 [(0, .w (.one (.p (.sl 10 es5 full6)))), (1, .w (.one (.p (.sl 10 es7 full8)))), (5, I x)], []⟩
set_option maxRecDepth 100000 in
theorem f24_p8e0 (es_6 : List (List PC)) (full_7 : Bool) (es_8 : List (List PC)) (full_9 : Bool) (n_10 : Int) (N : St → Prop) (K : TExit → St → Prop) : (f24_p8b0 es_6 full_7 es_8 full_9 n_10 (fun z4 => N (f24_p8_mk es_6 full_7 es_8 full_9 z4)) (fun b0_11 => K .ret ⟨mkS 67 [(4, B b0_11)], []⟩) (fun (_ : Unit) => K (.exit 0) ⟨mkS 67 [], []⟩)) = execT f24_C (nthC (bodies (bodyOf Tryd.f24)) 0) (f24_p8_mk es_6 full_7 es_8 full_9 n_10) (loopK N (normK f24_C 8) fun e s => K e (normOut f24_C 8 e s)) := by kernel_rfl
set_option maxHeartbeats 4000000 in
theorem f24_p8_ok : LoopOk f24_C (nthC (bodies (bodyOf Tryd.f24)) 0) := by
  refine LoopOk.of f24_p8L (by kernel_rfl) fun σ K h => ?_
  have hk : loopKey (nthC (bodies (bodyOf Tryd.f24)) 0) = 8 := by kernel_rfl
  rw [hk] at h ⊢
  generalize hs : normK f24_C 8 σ = s at h
  obtain ⟨tm, hp⟩ := s
  unfold f24_p8L at h
  dsimp only at h
  obtain ⟨xx, yy, rfl, rfl, h⟩ := getS_elim h
  refine iter_of (f24_p8_mk xx.1.1 xx.1.2 xx.2.1.1 xx.2.1.2) (fun x N h => ?_) rounds _ σ (hs.trans (by kernel_rfl)) (LoopP.run h)
  rw [← f24_p8e0 xx.1.1 xx.1.2 xx.2.1.1 xx.2.1.2 x N K]
  exact h
noncomputable def f24_G0 : List TV → List Entry → (TV → List Entry → Prop) → Prop := fun tm hp K => getS [.v (.one (.sl 10)), .v (.one (.sl 10))] [] tm hp fun (xx : ((List (List PC) × Bool) × ((List (List PC) × Bool) × Unit))) (yy : Unit) => f24 xx.1.1 xx.1.2 xx.2.1.1 xx.2.1.2 (fun b0_12 => K (B b0_12) [])
set_option maxRecDepth 100000 in
theorem f24_eq (es_13 : List (List PC)) (full_14 : Bool) (es_15 : List (List PC)) (full_16 : Bool) (K : TV → List Entry → Prop) : (f24_d es_13 full_14 es_15 full_16 (fun b0_12 => K (B b0_12) [])) = funcT f24_C Tryd.f24 [.w (.one (.p (.sl 10 es_13 full_14))), .w (.one (.p (.sl 10 es_15 full_16)))] [] K := by kernel_rfl
set_option maxHeartbeats 4000000 in
theorem f24_ok0 : FnOk Tryd.prog glob 24 f24_G0 := by
  refine FnOk.of_text (C := f24_C) tab_ok.ok (Known.none) follows_ok (fn := Tryd.f24) (by kernel_rfl) (by kernel_rfl) (by kernel_rfl) (fun c hc => ?_) fun tm hp K h => ?_
  · have e : c = bodyOf Tryd.f24 := Option.some.inj (hc.symm.trans (by kernel_rfl))
    subst e
    exact ⟨LoopsOk.of [nthC (bodies (bodyOf Tryd.f24)) 0] (by kernel_rfl) ⟨f24_p8_ok, trivial⟩, TailsOk.of (tab := f24_tab) rfl [] (by kernel_rfl) trivial⟩
  · unfold f24_G0 at h
    obtain ⟨xx, yy, rfl, rfl, h⟩ := getS_elim h
    have e := (f24_eq xx.1.1 xx.1.2 xx.2.1.1 xx.2.1.2 K).trans (show _ = funcT f24_C Tryd.f24 (mkR _ xx) (mkE _ yy) K by kernel_rfl)
    rw [← e]
    exact h.run
noncomputable abbrev f24_G := f24_G0
theorem f24_G_ok : FnOk Tryd.prog glob 24 f24_G := f24_ok0
end Go.Eng.N
set_option linter.unusedVariables false
set_option maxRecDepth 100000
open Go Go.Eng Go.Proofs
namespace Go.Eng.N
/-! ### f37: plenum/notify.Line$1 -/
noncomputable def f37_d (n1 : Int) (k0 : Int → ByteArray → Int → Int → Prop) : Prop := k0 4 (⟨#[]⟩ : ByteArray) n1 0
structure f37 (n1 : Int) (k0 : Int → ByteArray → Int → Int → Prop) : Prop where
  run : f37_d n1 k0
noncomputable def f37_tab : List (Nat × Told) := []
noncomputable def f37_call : FuncId → List TV → List Entry → (TV → List Entry → Prop) → Prop := noCalls
noncomputable def f37_C : Ctx := { ty := tyOf tab, glob := glob, byRef := byRef, keep := fun k i => lookN [] (lookN [] ([] : List (Nat × List (Nat × List Nat))) k) i, late := lookN [] ([] : List (Nat × List Nat)), nref := lookN [] ([] : List (Nat × List Nat)), nbox := lookN [] ([] : List (Nat × List (Nat × Nat))), take := [], rnil := false, m := 0, fz := true, loops := lookL f37_tab, call := f37_call }
noncomputable def f37_G0 : List TV → List Entry → (TV → List Entry → Prop) → Prop := fun tm hp K => getS [.v (.one (.int .i64))] [] tm hp fun (xx : (Int × Unit)) (yy : Unit) => f37 xx.1 (fun n0_0 s0_1 n0_2 n0_3 => K (.w (.pagg [pI n0_0, pS s0_1, pI n0_2, pI n0_3])) [])
set_option maxRecDepth 100000 in
theorem f37_eq (n_4 : Int) (K : TV → List Entry → Prop) : (f37_d n_4 (fun n0_0 s0_1 n0_2 n0_3 => K (.w (.pagg [pI n0_0, pS s0_1, pI n0_2, pI n0_3])) [])) = funcT f37_C Tryd.f37 [I n_4] [] K := by kernel_rfl
set_option maxHeartbeats 4000000 in
theorem f37_ok0 : FnOk Tryd.prog glob 37 f37_G0 := by
  refine FnOk.of_text (C := f37_C) tab_ok.ok (Known.none) follows_ok (fn := Tryd.f37) (by kernel_rfl) (by kernel_rfl) (by kernel_rfl) (fun c hc => ?_) fun tm hp K h => ?_
  · have e : c = bodyOf Tryd.f37 := Option.some.inj (hc.symm.trans (by kernel_rfl))
    subst e
    exact ⟨LoopsOk.of [] (by kernel_rfl) trivial, TailsOk.of (tab := f37_tab) rfl [] (by kernel_rfl) trivial⟩
  · unfold f37_G0 at h
    obtain ⟨xx, yy, rfl, rfl, h⟩ := getS_elim h
    have e := (f37_eq xx.1 K).trans (show _ = funcT f37_C Tryd.f37 (mkR _ xx) (mkE _ yy) K by kernel_rfl)
    rw [← e]
    exact h.run
noncomputable abbrev f37_G := f37_G0
theorem f37_G_ok : FnOk Tryd.prog glob 37 f37_G := f37_ok0
end Go.Eng.N
set_option linter.unusedVariables false
set_option maxRecDepth 100000
open Go Go.Eng Go.Proofs
namespace Go.Eng.N
/-! ### f38: plenum/notify.word -/
noncomputable def f38_d (s1 : ByteArray) (k0 : Int → ByteArray → Int → Int → Prop) : Prop := k0 1 s1 0 0
structure f38 (s1 : ByteArray) (k0 : Int → ByteArray → Int → Int → Prop) : Prop where
  run : f38_d s1 k0
noncomputable def f38_tab : List (Nat × Told) := []
noncomputable def f38_call : FuncId → List TV → List Entry → (TV → List Entry → Prop) → Prop := noCalls
noncomputable def f38_C : Ctx := { ty := tyOf tab, glob := glob, byRef := byRef, keep := fun k i => lookN [] (lookN [] ([] : List (Nat × List (Nat × List Nat))) k) i, late := lookN [] ([] : List (Nat × List Nat)), nref := lookN [] ([] : List (Nat × List Nat)), nbox := lookN [] ([] : List (Nat × List (Nat × Nat))), take := [], rnil := false, m := 0, fz := true, loops := lookL f38_tab, call := f38_call }
noncomputable def f38_G0 : List TV → List Entry → (TV → List Entry → Prop) → Prop := fun tm hp K => getS [.v (.one (.str))] [] tm hp fun (xx : (ByteArray × Unit)) (yy : Unit) => f38 xx.1 (fun n0_0 s0_1 n0_2 n0_3 => K (.w (.pagg [pI n0_0, pS s0_1, pI n0_2, pI n0_3])) [])
set_option maxRecDepth 100000 in
theorem f38_eq (s_4 : ByteArray) (K : TV → List Entry → Prop) : (f38_d s_4 (fun n0_0 s0_1 n0_2 n0_3 => K (.w (.pagg [pI n0_0, pS s0_1, pI n0_2, pI n0_3])) [])) = funcT f38_C Tryd.f38 [S s_4] [] K := by kernel_rfl
set_option maxHeartbeats 4000000 in
theorem f38_ok0 : FnOk Tryd.prog glob 38 f38_G0 := by
  refine FnOk.of_text (C := f38_C) tab_ok.ok (Known.none) follows_ok (fn := Tryd.f38) (by kernel_rfl) (by kernel_rfl) (by kernel_rfl) (fun c hc => ?_) fun tm hp K h => ?_
  · have e : c = bodyOf Tryd.f38 := Option.some.inj (hc.symm.trans (by kernel_rfl))
    subst e
    exact ⟨LoopsOk.of [] (by kernel_rfl) trivial, TailsOk.of (tab := f38_tab) rfl [] (by kernel_rfl) trivial⟩
  · unfold f38_G0 at h
    obtain ⟨xx, yy, rfl, rfl, h⟩ := getS_elim h
    have e := (f38_eq xx.1 K).trans (show _ = funcT f38_C Tryd.f38 (mkR _ xx) (mkE _ yy) K by kernel_rfl)
    rw [← e]
    exact h.run
noncomputable abbrev f38_G := f38_G0
theorem f38_G_ok : FnOk Tryd.prog glob 38 f38_G := f38_ok0
end Go.Eng.N
set_option linter.unusedVariables false
set_option maxRecDepth 100000
open Go Go.Eng Go.Proofs
namespace Go.Eng.N
/-! ### f39: plenum/notify.spell -/
noncomputable def f39_p4b0 (i7 : Nat) (n8 : Nat) (n9 : Int) (es10 : List (List PC)) (full11 : Bool) (n12 : Int) (n13 : Int) (es14 : List (List PC)) (N0 : Nat → Nat → Int → (List (List PC)) → Prop) (k0 : Nat → Nat → (List (List PC)) → Prop) : Prop := bB (decide (n13 < n12)) ((0 ≤ n13 ∧ n13 < ((es10.length : Nat) : Int)) ∧ oS (ext (List.getD es10 (Int.toNat n13) []) 0 1) fun s15 => 0 ≤ n13 ∧ bB ((IntKind.wrap .i64 (BitVec.toNat (BitVec.ofInt 64 (Int.fdiv n9 (2 ^ (min (Int.toNat n13) 64))) &&& BitVec.ofInt 64 1))) == 1) (f38 s15 (fun n16 s17 n18 n19 => (i7 + n8) = es14.length ∧ (n8 + 1) * 40 ≤ 2 ^ 46 ∧ (n8 + 1) ≤ 2 ^ 46 ∧ N0 0 (n8 + 1) (w64 (n13 + 1)) (List.drop i7 es14 ++ [[pI n16, pS s17, pI n18, pI n19]]))) (N0 i7 n8 (w64 (n13 + 1)) es14)) (k0 i7 n8 es14)
noncomputable def f39_p4 (n9 : Int) (es10 : List (List PC)) (full11 : Bool) (n12 : Int) (k0 : Nat → Nat → (List (List PC)) → Prop) : Nat × Nat × Int × (List (List PC)) → Prop := LoopP fun x N => f39_p4b0 x.1 x.2.1 n9 es10 full11 n12 x.2.2.1 x.2.2.2 (fun i7 n8 n13 es14 => N (i7, n8, n13, es14)) k0
noncomputable def f39_d (i1 : Nat) (n2 : Nat) (es3 : List (List PC)) (full4 : Bool) (n5 : Int) (es6 : List (List PC)) (k0 : Nat → Nat → (List (List PC)) → Prop) : Prop := f39_p4 n5 es3 full4 ((es3.length : Nat) : Int) (fun i20 n21 es22 => k0 i20 n21 es22) (0, n2, 0, (List.drop i1 es6))
structure f39 (i1 : Nat) (n2 : Nat) (es3 : List (List PC)) (full4 : Bool) (n5 : Int) (es6 : List (List PC)) (k0 : Nat → Nat → (List (List PC)) → Prop) : Prop where
  run : f39_d i1 n2 es3 full4 n5 es6 k0
noncomputable def f39_p4L : Told := fun s K => match s with
  | ⟨tm, hp⟩ => getS [.v (.one (.ref 1)), .skip 1, .v (.one (.int .i64)), .skip 6, .v (.one (.sl 1)), .v (.one (.int .i64)), .v (.one (.int .i64)), .skip 16] [.gone, .vec 4 true] tm hp fun (xx : ((Nat × Nat) × (Unit × (Int × (Unit × ((List (List PC) × Bool) × (Int × (Int × (Unit × Unit))))))))) (yy : (Unit × ((List (List PC)) × Unit))) => f39_p4 xx.2.2.1 xx.2.2.2.2.1.1 xx.2.2.2.2.1.2 xx.2.2.2.2.2.1 (fun i0_0 n0_1 es0_2 => K (.exit 0) ⟨mkS 28 [(0, .w (.one (.ref 1 i0_0 n0_1)))], [.gone, .vec 4 es0_2 true]⟩) (xx.1.1, xx.1.2, xx.2.2.2.2.2.2.1, yy.2.1)
noncomputable def f39_tab : List (Nat × Told) := [(4, f39_p4L)]
noncomputable def f39_call : FuncId → List TV → List Entry → (TV → List Entry → Prop) → Prop := addCall 38 f38_G (noCalls)
noncomputable def f39_C : Ctx := { ty := tyOf tab, glob := glob, byRef := byRef, keep := fun k i => lookN [] (lookN [] ([(4, [(0, [0, 2, 9, 10, 11]), (2, [6]), (3, [0])])] : List (Nat × List (Nat × List Nat))) k) i, late := lookN [] ([] : List (Nat × List Nat)), nref := lookN [] ([] : List (Nat × List Nat)), nbox := lookN [] ([] : List (Nat × List (Nat × Nat))), take := [0], rnil := true, m := 1, fz := false, loops := lookL f39_tab, call := f39_call }
noncomputable def f39_p4_mk (n9 : Int) (es10 : List (List PC)) (full11 : Bool) (n12 : Int) (x : Nat × Nat × Int × (List (List PC))) : St := ⟨mkS 28 [(0, .w (.one (.ref 1 x.1 x.2.1))), (2, I n9), (9, .w (.one (.p (.sl 1 es10 full11)))), (10, I n12), (11, I x.2.2.1)], [.gone, .vec 4 x.2.2.2 true]⟩
set_option maxRecDepth 100000 in
theorem f39_p4e0 (i_11 : Nat) (n_12 : Nat) (n_13 : Int) (es_14 : List (List PC)) (full_15 : Bool) (n_16 : Int) (n_17 : Int) (es_18 : List (List PC)) (N : St → Prop) (K : TExit → St → Prop) : (f39_p4b0 i_11 n_12 n_13 es_14 full_15 n_16 n_17 es_18 (fun z0 z1 z6 z7 => N (f39_p4_mk n_13 es_14 full_15 n_16 (z0, z1, z6, z7))) (fun i0_19 n0_20 es0_21 => K (.exit 0) ⟨mkS 28 [(0, .w (.one (.ref 1 i0_19 n0_20)))], [.gone, .vec 4 es0_21 true]⟩)) = execT f39_C (nthC (bodies (bodyOf Tryd.f39)) 0) (f39_p4_mk n_13 es_14 full_15 n_16 (i_11, n_12, n_17, es_18)) (loopK N (normK f39_C 4) fun e s => K e (normOut f39_C 4 e s)) := by kernel_rfl
set_option maxHeartbeats 4000000 in
theorem f39_p4_ok : LoopOk f39_C (nthC (bodies (bodyOf Tryd.f39)) 0) := by
  refine LoopOk.of f39_p4L (by kernel_rfl) fun σ K h => ?_
  have hk : loopKey (nthC (bodies (bodyOf Tryd.f39)) 0) = 4 := by kernel_rfl
  rw [hk] at h ⊢
  generalize hs : normK f39_C 4 σ = s at h
  obtain ⟨tm, hp⟩ := s
  unfold f39_p4L at h
  dsimp only at h
  obtain ⟨xx, yy, rfl, rfl, h⟩ := getS_elim h
  refine iter_of (f39_p4_mk xx.2.2.1 xx.2.2.2.2.1.1 xx.2.2.2.2.1.2 xx.2.2.2.2.2.1) (fun x N h => ?_) rounds _ σ (hs.trans (by kernel_rfl)) (LoopP.run h)
  obtain ⟨y0, y1, y2, y3⟩ := x
  rw [← f39_p4e0 y0 y1 xx.2.2.1 xx.2.2.2.2.1.1 xx.2.2.2.2.1.2 xx.2.2.2.2.2.1 y2 y3 N K]
  exact h
noncomputable def f39_G0 : List TV → List Entry → (TV → List Entry → Prop) → Prop := fun tm hp K => getS [.v (.one (.ref 0)), .v (.one (.sl 1)), .v (.one (.int .i64))] [.vec 4 true] tm hp fun (xx : ((Nat × Nat) × ((List (List PC) × Bool) × (Int × Unit)))) (yy : ((List (List PC)) × Unit)) => f39 xx.1.1 xx.1.2 xx.2.1.1 xx.2.1.2 xx.2.2.1 yy.1 (fun i0_22 n0_23 es0_24 => K (.w (.one (.ref 1 i0_22 n0_23))) [.gone, .vec 4 es0_24 true])
set_option maxRecDepth 100000 in
theorem f39_eq (i_25 : Nat) (n_26 : Nat) (es_27 : List (List PC)) (full_28 : Bool) (n_29 : Int) (es_30 : List (List PC)) (K : TV → List Entry → Prop) : (f39_d i_25 n_26 es_27 full_28 n_29 es_30 (fun i0_22 n0_23 es0_24 => K (.w (.one (.ref 1 i0_22 n0_23))) [.gone, .vec 4 es0_24 true])) = funcT f39_C Tryd.f39 [.w (.one (.ref 0 i_25 n_26)), .w (.one (.p (.sl 1 es_27 full_28))), I n_29] [.vec 4 es_30 true] K := by kernel_rfl
set_option maxHeartbeats 4000000 in
theorem f39_ok0 : FnOk Tryd.prog glob 39 f39_G0 := by
  refine FnOk.of_text (C := f39_C) tab_ok.ok (Known.add f38_G_ok (Known.none)) follows_ok (fn := Tryd.f39) (by kernel_rfl) (by kernel_rfl) (by kernel_rfl) (fun c hc => ?_) fun tm hp K h => ?_
  · have e : c = bodyOf Tryd.f39 := Option.some.inj (hc.symm.trans (by kernel_rfl))
    subst e
    exact ⟨LoopsOk.of [nthC (bodies (bodyOf Tryd.f39)) 0] (by kernel_rfl) ⟨f39_p4_ok, trivial⟩, TailsOk.of (tab := f39_tab) rfl [] (by kernel_rfl) trivial⟩
  · unfold f39_G0 at h
    obtain ⟨xx, yy, rfl, rfl, h⟩ := getS_elim h
    have e := (f39_eq xx.1.1 xx.1.2 xx.2.1.1 xx.2.1.2 xx.2.2.1 yy.1 K).trans (show _ = funcT f39_C Tryd.f39 (mkR _ xx) (mkE _ yy) K by kernel_rfl)
    rw [← e]
    exact h.run
noncomputable abbrev f39_G := f39_G0
theorem f39_G_ok : FnOk Tryd.prog glob 39 f39_G := f39_ok0
end Go.Eng.N
set_option linter.unusedVariables false
set_option maxRecDepth 100000
open Go Go.Eng Go.Proofs
namespace Go.Eng.N
/-! ### f14: plenum/notify.Line -/
noncomputable def f14_p18b0 (es38 : List (List PC)) (full39 : Bool) (n40 : Int) (n41 : Int) (b42 : Bool) (n43 : Int) (i44 : Nat) (n45 : Nat) (b46 : Bool) (i47 : Nat) (n48 : Nat) (n49 : Int) (es50 : List (List PC)) (es51 : List (List PC)) (N0 : Int → Nat → Nat → (List (List PC)) → Prop) (k0 : Nat → Nat → (List (List PC)) → Prop) : Prop := bB (decide (n41 < n40)) ((0 ≤ n41 ∧ n41 < ((es38.length : Nat) : Int)) ∧ cS (ext (List.getD es38 (Int.toNat n41) []) 0 5) fun s53 r52 => cI .i64 r52 fun n55 r54 => cI .i64 r54 fun n57 r56 => cI .i64 r56 fun n59 r58 => cI .i64 r58 fun n61 r60 => nilC r60 <| f38 (⟨#[114, 101, 99, 105, 112, 105, 101, 110, 116]⟩ : ByteArray) (fun n62 s63 n64 n65 => f38 s53 (fun n66 s67 n68 n69 => f38 (⟨#[100, 97, 121, 115]⟩ : ByteArray) (fun n70 s71 n72 n73 => f39 0 3 [[pS (⟨#[109, 111, 110]⟩ : ByteArray)], [pS (⟨#[116, 117, 101]⟩ : ByteArray)], [pS (⟨#[119, 101, 100]⟩ : ByteArray)], [pS (⟨#[116, 104, 117]⟩ : ByteArray)], [pS (⟨#[102, 114, 105]⟩ : ByteArray)], [pS (⟨#[115, 97, 116]⟩ : ByteArray)], [pS (⟨#[115, 117, 110]⟩ : ByteArray)]] false n55 [[pI n62, pS s63, pI n64, pI n65], [pI n66, pS s67, pI n68, pI n69], [pI n70, pS s71, pI n72, pI n73]] (fun i74 n75 es76 => f38 (⟨#[102, 114, 111, 109]⟩ : ByteArray) (fun n77 s78 n79 n80 => f37 n57 (fun n81 s82 n83 n84 => f38 (⟨#[116, 111]⟩ : ByteArray) (fun n85 s86 n87 n88 => f37 n59 (fun n89 s90 n91 n92 => f38 (⟨#[102, 111, 114]⟩ : ByteArray) (fun n93 s94 n95 n96 => (i74 + n75) = es76.length ∧ (n75 + 5) * 40 ≤ 2 ^ 46 ∧ (n75 + 5) ≤ 2 ^ 46 ∧ f39 0 (n75 + 5) [[pS (⟨#[97, 108, 97, 114, 109]⟩ : ByteArray)], [pS (⟨#[102, 97, 117, 108, 116]⟩ : ByteArray)], [pS (⟨#[110, 111, 114, 109, 97, 108]⟩ : ByteArray)]] false n61 (List.drop i74 es76 ++ [[pI n77, pS s78, pI n79, pI n80], [pI n81, pS s82, pI n83, pI n84], [pI n85, pS s86, pI n87, pI n88], [pI n89, pS s90, pI n91, pI n92], [pI n93, pS s94, pI n95, pI n96]]) (fun i97 n98 es99 => (i47 + n48) = es51.length ∧ (n48 + 1) * 64 ≤ 2 ^ 46 ∧ (n48 + 1) ≤ 2 ^ 46 ∧ N0 (w64 (n41 + 1)) 0 (n48 + 1) (List.drop i47 es51 ++ [[.sl 4 (List.take n98 (List.drop i97 es99)) false, pB false, .sl 4 [] true, pI 0]])))))))))))) (k0 i47 n48 es51)
noncomputable def f14_p18 (es38 : List (List PC)) (full39 : Bool) (n40 : Int) (b42 : Bool) (n43 : Int) (i44 : Nat) (n45 : Nat) (b46 : Bool) (n49 : Int) (es50 : List (List PC)) (k0 : Nat → Nat → (List (List PC)) → Prop) : Int × Nat × Nat × (List (List PC)) → Prop := LoopP fun x N => f14_p18b0 es38 full39 n40 x.1 b42 n43 i44 n45 b46 x.2.1 x.2.2.1 n49 es50 x.2.2.2 (fun n41 i47 n48 es51 => N (n41, i47, n48, es51)) k0
noncomputable def f14_p17 (s26 : ByteArray) (n27 : Int) (n28 : Int) (es29 : List (List PC)) (full30 : Bool) (b31 : Bool) (n32 : Int) (i33 : Nat) (n34 : Nat) (b35 : Bool) (n36 : Int) (es37 : List (List PC)) (k0 : Int → Nat → Nat → (List (List PC)) → Prop) : Prop := f14_p18 es29 full30 ((es29.length : Nat) : Int) b31 n32 i33 n34 b35 n36 es37 (fun i100 n101 es102 => k0 0 i100 n101 es102) (0, 0, 0, [])
noncomputable def f14_d (s1 : ByteArray) (n2 : Int) (n3 : Int) (es4 : List (List PC)) (full5 : Bool) (k0 : (List (List PC)) → Bool → Bool → (List (List PC)) → Bool → Int → Int → Prop) : Prop := f16 s1 n2 n3 es4 full5 (fun n6 => bB (n6 != 0) (k0 [] true false [] true 0 n6) ((f38 (⟨#[99, 108, 97, 115, 115]⟩ : ByteArray) (fun n7 s8 n9 n10 => (f38 s1 (fun n11 s12 n13 n14 => (f38 (⟨#[112, 114, 105, 111, 114, 105, 116, 121]⟩ : ByteArray) (fun n15 s16 n17 n18 => (bB (n3 != 0) (f38 (⟨#[97, 99, 107]⟩ : ByteArray) (fun n19 s20 n21 n22 => 4 = 4 ∧ 5 * 40 ≤ 2 ^ 46 ∧ 5 ≤ 2 ^ 46 ∧ f39 0 5 [[pS (⟨#[97, 108, 97, 114, 109]⟩ : ByteArray)], [pS (⟨#[102, 97, 117, 108, 116]⟩ : ByteArray)], [pS (⟨#[110, 111, 114, 109, 97, 108]⟩ : ByteArray)]] false n3 [[pI n7, pS s8, pI n9, pI n10], [pI n11, pS s12, pI n13, pI n14], [pI n15, pS s16, pI n17, pI n18], [pI 2, pS (⟨#[]⟩ : ByteArray), pI (w64 (1000 * n2)), pI 0], [pI n19, pS s20, pI n21, pI n22]] (fun i23 n24 es25 => f14_p17 s1 n2 n3 es4 full5 false 0 i23 n24 (decide (((es4.length : Nat) : Int) > 0)) 0 es25 (fun n103 i104 n105 es106 => k0 (List.take n24 (List.drop i23 es25)) false (decide (((es4.length : Nat) : Int) > 0)) (List.take n105 (List.drop i104 es106)) false 0 n103)))) (f14_p17 s1 n2 n3 es4 full5 false 0 0 4 (decide (((es4.length : Nat) : Int) > 0)) 0 [[pI n7, pS s8, pI n9, pI n10], [pI n11, pS s12, pI n13, pI n14], [pI n15, pS s16, pI n17, pI n18], [pI 2, pS (⟨#[]⟩ : ByteArray), pI (w64 (1000 * n2)), pI 0]] (fun n107 i108 n109 es110 => k0 (List.take 4 (List.drop 0 [[pI n7, pS s8, pI n9, pI n10], [pI n11, pS s12, pI n13, pI n14], [pI n15, pS s16, pI n17, pI n18], [pI 2, pS (⟨#[]⟩ : ByteArray), pI (w64 (1000 * n2)), pI 0]])) false (decide (((es4.length : Nat) : Int) > 0)) (List.take n109 (List.drop i108 es110)) false 0 n107))) ∧ (bB (n3 != 0) (f38 (⟨#[97, 99, 107]⟩ : ByteArray) (fun n111 s112 n113 n114 => 4 = 4 ∧ 5 * 40 ≤ 2 ^ 46 ∧ 5 ≤ 2 ^ 46 ∧ f39 0 5 [[pS (⟨#[97, 108, 97, 114, 109]⟩ : ByteArray)], [pS (⟨#[102, 97, 117, 108, 116]⟩ : ByteArray)], [pS (⟨#[110, 111, 114, 109, 97, 108]⟩ : ByteArray)]] false n3 [[pI n7, pS s8, pI n9, pI n10], [pI n11, pS s12, pI n13, pI n14], [pI n15, pS s16, pI n17, pI n18], [pI 2, pS (⟨#[]⟩ : ByteArray), pI (w64 (1000 * n2)), pI 0], [pI n111, pS s112, pI n113, pI n114]] (fun i115 n116 es117 => f14_p17 s1 n2 n3 es4 full5 false 0 i115 n116 (decide (((es4.length : Nat) : Int) > 0)) 0 es117 (fun n118 i119 n120 es121 => k0 (List.take n116 (List.drop i115 es117)) false (decide (((es4.length : Nat) : Int) > 0)) (List.take n120 (List.drop i119 es121)) false 0 n118)))) (f14_p17 s1 n2 n3 es4 full5 false 0 0 4 (decide (((es4.length : Nat) : Int) > 0)) 0 [[pI n7, pS s8, pI n9, pI n10], [pI n11, pS s12, pI n13, pI n14], [pI n15, pS s16, pI n17, pI n18], [pI 2, pS (⟨#[]⟩ : ByteArray), pI (w64 (1000 * n2)), pI 0]] (fun n122 i123 n124 es125 => k0 (List.take 4 (List.drop 0 [[pI n7, pS s8, pI n9, pI n10], [pI n11, pS s12, pI n13, pI n14], [pI n15, pS s16, pI n17, pI n18], [pI 2, pS (⟨#[]⟩ : ByteArray), pI (w64 (1000 * n2)), pI 0]])) false (decide (((es4.length : Nat) : Int) > 0)) (List.take n124 (List.drop i123 es125)) false 0 n122))))) ∧ (f38 (⟨#[112, 114, 105, 111, 114, 105, 116, 121]⟩ : ByteArray) (fun n126 s127 n128 n129 => bB (n3 != 0) (f38 (⟨#[97, 99, 107]⟩ : ByteArray) (fun n130 s131 n132 n133 => 4 = 4 ∧ 5 * 40 ≤ 2 ^ 46 ∧ 5 ≤ 2 ^ 46 ∧ f39 0 5 [[pS (⟨#[97, 108, 97, 114, 109]⟩ : ByteArray)], [pS (⟨#[102, 97, 117, 108, 116]⟩ : ByteArray)], [pS (⟨#[110, 111, 114, 109, 97, 108]⟩ : ByteArray)]] false n3 [[pI n7, pS s8, pI n9, pI n10], [pI n11, pS s12, pI n13, pI n14], [pI n126, pS s127, pI n128, pI n129], [pI 2, pS (⟨#[]⟩ : ByteArray), pI (w64 (1000 * n2)), pI 0], [pI n130, pS s131, pI n132, pI n133]] (fun i134 n135 es136 => f14_p17 s1 n2 n3 es4 full5 false 0 i134 n135 (decide (((es4.length : Nat) : Int) > 0)) 0 es136 (fun n137 i138 n139 es140 => k0 (List.take n135 (List.drop i134 es136)) false (decide (((es4.length : Nat) : Int) > 0)) (List.take n139 (List.drop i138 es140)) false 0 n137)))) (f14_p17 s1 n2 n3 es4 full5 false 0 0 4 (decide (((es4.length : Nat) : Int) > 0)) 0 [[pI n7, pS s8, pI n9, pI n10], [pI n11, pS s12, pI n13, pI n14], [pI n126, pS s127, pI n128, pI n129], [pI 2, pS (⟨#[]⟩ : ByteArray), pI (w64 (1000 * n2)), pI 0]] (fun n141 i142 n143 es144 => k0 (List.take 4 (List.drop 0 [[pI n7, pS s8, pI n9, pI n10], [pI n11, pS s12, pI n13, pI n14], [pI n126, pS s127, pI n128, pI n129], [pI 2, pS (⟨#[]⟩ : ByteArray), pI (w64 (1000 * n2)), pI 0]])) false (decide (((es4.length : Nat) : Int) > 0)) (List.take n143 (List.drop i142 es144)) false 0 n141)))))) ∧ (f38 s1 (fun n145 s146 n147 n148 => f38 (⟨#[112, 114, 105, 111, 114, 105, 116, 121]⟩ : ByteArray) (fun n149 s150 n151 n152 => bB (n3 != 0) (f38 (⟨#[97, 99, 107]⟩ : ByteArray) (fun n153 s154 n155 n156 => 4 = 4 ∧ 5 * 40 ≤ 2 ^ 46 ∧ 5 ≤ 2 ^ 46 ∧ f39 0 5 [[pS (⟨#[97, 108, 97, 114, 109]⟩ : ByteArray)], [pS (⟨#[102, 97, 117, 108, 116]⟩ : ByteArray)], [pS (⟨#[110, 111, 114, 109, 97, 108]⟩ : ByteArray)]] false n3 [[pI n7, pS s8, pI n9, pI n10], [pI n145, pS s146, pI n147, pI n148], [pI n149, pS s150, pI n151, pI n152], [pI 2, pS (⟨#[]⟩ : ByteArray), pI (w64 (1000 * n2)), pI 0], [pI n153, pS s154, pI n155, pI n156]] (fun i157 n158 es159 => f14_p17 s1 n2 n3 es4 full5 false 0 i157 n158 (decide (((es4.length : Nat) : Int) > 0)) 0 es159 (fun n160 i161 n162 es163 => k0 (List.take n158 (List.drop i157 es159)) false (decide (((es4.length : Nat) : Int) > 0)) (List.take n162 (List.drop i161 es163)) false 0 n160)))) (f14_p17 s1 n2 n3 es4 full5 false 0 0 4 (decide (((es4.length : Nat) : Int) > 0)) 0 [[pI n7, pS s8, pI n9, pI n10], [pI n145, pS s146, pI n147, pI n148], [pI n149, pS s150, pI n151, pI n152], [pI 2, pS (⟨#[]⟩ : ByteArray), pI (w64 (1000 * n2)), pI 0]] (fun n164 i165 n166 es167 => k0 (List.take 4 (List.drop 0 [[pI n7, pS s8, pI n9, pI n10], [pI n145, pS s146, pI n147, pI n148], [pI n149, pS s150, pI n151, pI n152], [pI 2, pS (⟨#[]⟩ : ByteArray), pI (w64 (1000 * n2)), pI 0]])) false (decide (((es4.length : Nat) : Int) > 0)) (List.take n166 (List.drop i165 es167)) false 0 n164))))))) ∧ (f38 (⟨#[99, 108, 97, 115, 115]⟩ : ByteArray) (fun n168 s169 n170 n171 => f38 s1 (fun n172 s173 n174 n175 => f38 (⟨#[112, 114, 105, 111, 114, 105, 116, 121]⟩ : ByteArray) (fun n176 s177 n178 n179 => bB (n3 != 0) (f38 (⟨#[97, 99, 107]⟩ : ByteArray) (fun n180 s181 n182 n183 => 4 = 4 ∧ 5 * 40 ≤ 2 ^ 46 ∧ 5 ≤ 2 ^ 46 ∧ f39 0 5 [[pS (⟨#[97, 108, 97, 114, 109]⟩ : ByteArray)], [pS (⟨#[102, 97, 117, 108, 116]⟩ : ByteArray)], [pS (⟨#[110, 111, 114, 109, 97, 108]⟩ : ByteArray)]] false n3 [[pI n168, pS s169, pI n170, pI n171], [pI n172, pS s173, pI n174, pI n175], [pI n176, pS s177, pI n178, pI n179], [pI 2, pS (⟨#[]⟩ : ByteArray), pI (w64 (1000 * n2)), pI 0], [pI n180, pS s181, pI n182, pI n183]] (fun i184 n185 es186 => f14_p17 s1 n2 n3 es4 full5 false 0 i184 n185 (decide (((es4.length : Nat) : Int) > 0)) 0 es186 (fun n187 i188 n189 es190 => k0 (List.take n185 (List.drop i184 es186)) false (decide (((es4.length : Nat) : Int) > 0)) (List.take n189 (List.drop i188 es190)) false 0 n187)))) (f14_p17 s1 n2 n3 es4 full5 false 0 0 4 (decide (((es4.length : Nat) : Int) > 0)) 0 [[pI n168, pS s169, pI n170, pI n171], [pI n172, pS s173, pI n174, pI n175], [pI n176, pS s177, pI n178, pI n179], [pI 2, pS (⟨#[]⟩ : ByteArray), pI (w64 (1000 * n2)), pI 0]] (fun n191 i192 n193 es194 => k0 (List.take 4 (List.drop 0 [[pI n168, pS s169, pI n170, pI n171], [pI n172, pS s173, pI n174, pI n175], [pI n176, pS s177, pI n178, pI n179], [pI 2, pS (⟨#[]⟩ : ByteArray), pI (w64 (1000 * n2)), pI 0]])) false (decide (((es4.length : Nat) : Int) > 0)) (List.take n193 (List.drop i192 es194)) false 0 n191))))))))
structure f14 (s1 : ByteArray) (n2 : Int) (n3 : Int) (es4 : List (List PC)) (full5 : Bool) (k0 : (List (List PC)) → Bool → Bool → (List (List PC)) → Bool → Int → Int → Prop) : Prop where
  run : f14_d s1 n2 n3 es4 full5 k0
noncomputable def f14_p18L : Told := fun s K => match s with
  | ⟨tm, hp⟩ => getS [.skip 2, .v (.one (.ptr 0 0 0)), .skip 2, .v (.one (.fn 37)), .v (.one (.ptr 1 0 0)), .skip 38, .v (.one (.sl 5)), .v (.one (.int .i64)), .v (.one (.int .i64)), .skip 40] [.box [.nil 4, .bool, .nil 4, .int .i64], .box [.ref 2, .bool, .ref 3, .int .i64], .vec 4 true, .vec 4 true] tm hp fun (xx : (Unit × (Unit × (Unit × (Unit × (Unit × (Unit × ((List (List PC) × Bool) × (Int × (Int × (Unit × Unit))))))))))) (yy : ((Unit × (Bool × (Unit × (Int × Unit)))) × (((Nat × Nat) × (Bool × ((Nat × Nat) × (Int × Unit)))) × ((List (List PC)) × ((List (List PC)) × Unit))))) => f14_p18 xx.2.2.2.2.2.2.1.1 xx.2.2.2.2.2.2.1.2 xx.2.2.2.2.2.2.2.1 yy.1.2.1 yy.1.2.2.2.1 yy.2.1.1.1 yy.2.1.1.2 yy.2.1.2.1 yy.2.1.2.2.2.1 yy.2.2.1 (fun i0_0 n0_1 es0_2 => K (.exit 0) ⟨mkS 88 [(2, .w (.one (.ptr 0 0 0))), (6, .w (.one (.ptr 1 0 0)))], [.box [.p (.sl 4 [] true), .p (pB yy.1.2.1), .p (.sl 4 [] true), .p (pI yy.1.2.2.2.1)], .box [.ref 2 yy.2.1.1.1 yy.2.1.1.2, .p (pB yy.2.1.2.1), .ref 3 i0_0 n0_1, .p (pI yy.2.1.2.2.2.1)], .vec 4 yy.2.2.1 true, .vec 4 es0_2 true]⟩) (xx.2.2.2.2.2.2.2.2.1, yy.2.1.2.2.1.1, yy.2.1.2.2.1.2, yy.2.2.2.1)
noncomputable def f14_p17L : Told := fun s K => match s with
  | ⟨tm, hp⟩ => getS [.skip 1, .v (.one (.ptr 0 0 0)), .v (.one (.ptr 1 0 0)), .skip 2, .v (.one (.fn 37)), .v (.one (.ptr 2 0 0)), .skip 81] [.box [.str, .int .i64, .int .i64, .sl 5], .box [.nil 4, .bool, .nil 4, .int .i64], .box [.ref 3, .bool, .nil 4, .int .i64], .vec 4 true] tm hp fun (xx : (Unit × (Unit × (Unit × (Unit × (Unit × (Unit × (Unit × Unit)))))))) (yy : ((ByteArray × (Int × (Int × ((List (List PC) × Bool) × Unit)))) × ((Unit × (Bool × (Unit × (Int × Unit)))) × (((Nat × Nat) × (Bool × (Unit × (Int × Unit)))) × ((List (List PC)) × Unit))))) => f14_p17 yy.1.1 yy.1.2.1 yy.1.2.2.1 yy.1.2.2.2.1.1 yy.1.2.2.2.1.2 yy.2.1.2.1 yy.2.1.2.2.2.1 yy.2.2.1.1.1 yy.2.2.1.1.2 yy.2.2.1.2.1 yy.2.2.1.2.2.2.1 yy.2.2.2.1 (fun n0_3 i0_4 n0_5 es0_6 => K .ret ⟨mkS 88 [(2, .w (.one (.ptr 0 0 0))), (3, I n0_3)], [.box [.ref 1 yy.2.2.1.1.1 yy.2.2.1.1.2, .p (pB yy.2.2.1.2.1), .ref 2 i0_4 n0_5, .p (pI yy.2.2.1.2.2.2.1)], .vec 4 yy.2.2.2.1 true, .vec 4 es0_6 true]⟩)
noncomputable def f14_tab : List (Nat × Told) := [(18, f14_p18L), (17, f14_p17L)]
noncomputable def f14_call : FuncId → List TV → List Entry → (TV → List Entry → Prop) → Prop := addCall 39 f39_G (addCall 38 f38_G (addCall 37 f37_G (addCall 16 f16_G (noCalls))))
noncomputable def f14_C : Ctx := { ty := tyOf tab, glob := glob, byRef := byRef, keep := fun k i => lookN [] (lookN [] ([(18, [(0, [2, 5, 6, 45, 46, 47]), (2, [2, 3]), (3, [2, 6])]), (17, [(0, [1, 2, 5, 6]), (1, [2, 3]), (2, [2, 3])])] : List (Nat × List (Nat × List Nat))) k) i, late := lookN [] ([] : List (Nat × List Nat)), nref := lookN [] ([] : List (Nat × List Nat)), nbox := lookN [] ([(18, [(1, 2)])] : List (Nat × List (Nat × Nat))), take := [], rnil := false, m := 0, fz := true, loops := lookL f14_tab, call := f14_call }
noncomputable def f14_p18_mk (es38 : List (List PC)) (full39 : Bool) (n40 : Int) (b42 : Bool) (n43 : Int) (i44 : Nat) (n45 : Nat) (b46 : Bool) (n49 : Int) (es50 : List (List PC)) (x : Int × Nat × Nat × (List (List PC))) : St := ⟨mkS 88 [(2, .w (.one (.ptr 0 0 0))), (5, .w (.one (.p (.c (.func (.func 37) #[] #[]))))), (6, .w (.one (.ptr 1 0 0))), (45, .w (.one (.p (.sl 5 es38 full39)))), (46, I n40), (47, I x.1)], [.box [.p (.sl 4 [] true), .p (pB b42), .p (.sl 4 [] true), .p (pI n43)], .box [.ref 2 i44 n45, .p (pB b46), .ref 3 x.2.1 x.2.2.1, .p (pI n49)], .vec 4 es50 true, .vec 4 x.2.2.2 true]⟩
set_option maxRecDepth 100000 in
theorem f14_p18e0 (es_21 : List (List PC)) (full_22 : Bool) (n_23 : Int) (n_24 : Int) (b_25 : Bool) (n_26 : Int) (i_27 : Nat) (n_28 : Nat) (b_29 : Bool) (i_30 : Nat) (n_31 : Nat) (n_32 : Int) (es_33 : List (List PC)) (es_34 : List (List PC)) (N : St → Prop) (K : TExit → St → Prop) : (f14_p18b0 es_21 full_22 n_23 n_24 b_25 n_26 i_27 n_28 b_29 i_30 n_31 n_32 es_33 es_34 (fun z3 z9 z10 z13 => N (f14_p18_mk es_21 full_22 n_23 b_25 n_26 i_27 n_28 b_29 n_32 es_33 (z3, z9, z10, z13))) (fun i0_35 n0_36 es0_37 => K (.exit 0) ⟨mkS 88 [(2, .w (.one (.ptr 0 0 0))), (6, .w (.one (.ptr 1 0 0)))], [.box [.p (.sl 4 [] true), .p (pB b_25), .p (.sl 4 [] true), .p (pI n_26)], .box [.ref 2 i_27 n_28, .p (pB b_29), .ref 3 i0_35 n0_36, .p (pI n_32)], .vec 4 es_33 true, .vec 4 es0_37 true]⟩)) = execT f14_C (nthC (bodies (bodyOf Tryd.f14)) 0) (f14_p18_mk es_21 full_22 n_23 b_25 n_26 i_27 n_28 b_29 n_32 es_33 (n_24, i_30, n_31, es_34)) (loopK N (normK f14_C 18) fun e s => K e (normOut f14_C 18 e s)) := by kernel_rfl
set_option maxRecDepth 100000 in
theorem f14_p17e0 (s_38 : ByteArray) (n_39 : Int) (n_40 : Int) (es_41 : List (List PC)) (full_42 : Bool) (b_43 : Bool) (n_44 : Int) (i_45 : Nat) (n_46 : Nat) (b_47 : Bool) (n_48 : Int) (es_49 : List (List PC)) (K : TExit → St → Prop) : (f14_p17 s_38 n_39 n_40 es_41 full_42 b_43 n_44 i_45 n_46 b_47 n_48 es_49 (fun n0_50 i0_51 n0_52 es0_53 => K .ret ⟨mkS 88 [(2, .w (.one (.ptr 0 0 0))), (3, I n0_50)], [.box [.ref 1 i_45 n_46, .p (pB b_47), .ref 2 i0_51 n0_52, .p (pI n_48)], .vec 4 es_49 true, .vec 4 es0_53 true]⟩)) = execT f14_C (nthC (tails (bodyOf Tryd.f14)) 7) ⟨mkS 88 [(1, .w (.one (.ptr 0 0 0))), (2, .w (.one (.ptr 1 0 0))), (5, .w (.one (.p (.c (.func (.func 37) #[] #[]))))), (6, .w (.one (.ptr 2 0 0)))], [.box [.p (pS s_38), .p (pI n_39), .p (pI n_40), .p (.sl 5 es_41 full_42)], .box [.p (.sl 4 [] true), .p (pB b_43), .p (.sl 4 [] true), .p (pI n_44)], .box [.ref 3 i_45 n_46, .p (pB b_47), .p (.sl 4 [] true), .p (pI n_48)], .vec 4 es_49 true]⟩ (fun e s => K e (normOut f14_C 17 e s)) := by kernel_rfl
set_option maxHeartbeats 4000000 in
theorem f14_p18_ok : LoopOk f14_C (nthC (bodies (bodyOf Tryd.f14)) 0) := by
  refine LoopOk.of f14_p18L (by kernel_rfl) fun σ K h => ?_
  have hk : loopKey (nthC (bodies (bodyOf Tryd.f14)) 0) = 18 := by kernel_rfl
  rw [hk] at h ⊢
  generalize hs : normK f14_C 18 σ = s at h
  obtain ⟨tm, hp⟩ := s
  unfold f14_p18L at h
  dsimp only at h
  obtain ⟨xx, yy, rfl, rfl, h⟩ := getS_elim h
  refine iter_of (f14_p18_mk xx.2.2.2.2.2.2.1.1 xx.2.2.2.2.2.2.1.2 xx.2.2.2.2.2.2.2.1 yy.1.2.1 yy.1.2.2.2.1 yy.2.1.1.1 yy.2.1.1.2 yy.2.1.2.1 yy.2.1.2.2.2.1 yy.2.2.1) (fun x N h => ?_) rounds _ σ (hs.trans (by kernel_rfl)) (LoopP.run h)
  obtain ⟨y0, y1, y2, y3⟩ := x
  rw [← f14_p18e0 xx.2.2.2.2.2.2.1.1 xx.2.2.2.2.2.2.1.2 xx.2.2.2.2.2.2.2.1 y0 yy.1.2.1 yy.1.2.2.2.1 yy.2.1.1.1 yy.2.1.1.2 yy.2.1.2.1 y1 y2 yy.2.1.2.2.2.1 yy.2.2.1 y3 N K]
  exact h
set_option maxHeartbeats 4000000 in
theorem f14_p17_ok : TailOk f14_C (nthC (tails (bodyOf Tryd.f14)) 7) := by
  refine TailOk.of f14_p17L (by kernel_rfl) fun σ K h => ?_
  have hk : joinKey (nthC (tails (bodyOf Tryd.f14)) 7) = 17 := by kernel_rfl
  rw [hk] at h ⊢
  generalize hs : normK f14_C 17 σ = s at h
  obtain ⟨tm, hp⟩ := s
  unfold f14_p17L at h
  dsimp only at h
  obtain ⟨xx, yy, rfl, rfl, h⟩ := getS_elim h
  have q : normK f14_C 17 σ = (⟨mkS 88 [(1, .w (.one (.ptr 0 0 0))), (2, .w (.one (.ptr 1 0 0))), (5, .w (.one (.p (.c (.func (.func 37) #[] #[]))))), (6, .w (.one (.ptr 2 0 0)))], [.box [.p (pS yy.1.1), .p (pI yy.1.2.1), .p (pI yy.1.2.2.1), .p (.sl 5 yy.1.2.2.2.1.1 yy.1.2.2.2.1.2)], .box [.p (.sl 4 [] true), .p (pB yy.2.1.2.1), .p (.sl 4 [] true), .p (pI yy.2.1.2.2.2.1)], .box [.ref 3 yy.2.2.1.1.1 yy.2.2.1.1.2, .p (pB yy.2.2.1.2.1), .p (.sl 4 [] true), .p (pI yy.2.2.1.2.2.2.1)], .vec 4 yy.2.2.2.1 true]⟩ : St) := hs.trans (by kernel_rfl)
  rw [← hs, q, ← f14_p17e0 yy.1.1 yy.1.2.1 yy.1.2.2.1 yy.1.2.2.2.1.1 yy.1.2.2.2.1.2 yy.2.1.2.1 yy.2.1.2.2.2.1 yy.2.2.1.1.1 yy.2.2.1.1.2 yy.2.2.1.2.1 yy.2.2.1.2.2.2.1 yy.2.2.2.1 K]
  exact h
noncomputable def f14_G0 : List TV → List Entry → (TV → List Entry → Prop) → Prop := fun tm hp K => getS [.v (.pagg [.str, .int .i64, .int .i64, .sl 5])] [] tm hp fun (xx : ((ByteArray × (Int × (Int × ((List (List PC) × Bool) × Unit)))) × Unit)) (yy : Unit) => f14 xx.1.1 xx.1.2.1 xx.1.2.2.1 xx.1.2.2.2.1.1 xx.1.2.2.2.1.2 (fun es0_54 full0_55 b0_56 es0_57 full0_58 n0_59 n0_60 => K (.tup [.pagg [.sl 4 es0_54 full0_55, pB b0_56, .sl 4 es0_57 full0_58, pI n0_59], .one (.p (pI n0_60))]) [])
set_option maxRecDepth 100000 in
theorem f14_eq (s_61 : ByteArray) (n_62 : Int) (n_63 : Int) (es_64 : List (List PC)) (full_65 : Bool) (K : TV → List Entry → Prop) : (f14_d s_61 n_62 n_63 es_64 full_65 (fun es0_54 full0_55 b0_56 es0_57 full0_58 n0_59 n0_60 => K (.tup [.pagg [.sl 4 es0_54 full0_55, pB b0_56, .sl 4 es0_57 full0_58, pI n0_59], .one (.p (pI n0_60))]) [])) = funcT f14_C Tryd.f14 [.w (.pagg [pS s_61, pI n_62, pI n_63, .sl 5 es_64 full_65])] [] K := by kernel_rfl
set_option maxHeartbeats 4000000 in
theorem f14_ok0 : FnOk Tryd.prog glob 14 f14_G0 := by
  refine FnOk.of_text (C := f14_C) tab_ok.ok (Known.add f39_G_ok (Known.add f38_G_ok (Known.add f37_G_ok (Known.add f16_G_ok (Known.none))))) follows_ok (fn := Tryd.f14) (by kernel_rfl) (by kernel_rfl) (by kernel_rfl) (fun c hc => ?_) fun tm hp K h => ?_
  · have e : c = bodyOf Tryd.f14 := Option.some.inj (hc.symm.trans (by kernel_rfl))
    subst e
    exact ⟨LoopsOk.of [nthC (bodies (bodyOf Tryd.f14)) 0] (by kernel_rfl) ⟨f14_p18_ok, trivial⟩, TailsOk.of (tab := f14_tab) rfl [nthC (tails (bodyOf Tryd.f14)) 7] (by kernel_rfl) ⟨f14_p17_ok, trivial⟩⟩
  · unfold f14_G0 at h
    obtain ⟨xx, yy, rfl, rfl, h⟩ := getS_elim h
    have e := (f14_eq xx.1.1 xx.1.2.1 xx.1.2.2.1 xx.1.2.2.2.1.1 xx.1.2.2.2.1.2 K).trans (show _ = funcT f14_C Tryd.f14 (mkR _ xx) (mkE _ yy) K by kernel_rfl)
    rw [← e]
    exact h.run
noncomputable abbrev f14_G := f14_G0
theorem f14_G_ok : FnOk Tryd.prog glob 14 f14_G := f14_ok0
end Go.Eng.N
set_option linter.unusedVariables false
set_option maxRecDepth 100000
open Go Go.Eng Go.Proofs
namespace Go.Eng.N
/-! ### f36: plenum/plenumlaw39.hvac -/
noncomputable def f36_d (k0 : ByteArray → Int → Int → (List (List PC)) → Bool → Prop) : Prop := k0 (⟨#[104, 118, 97, 99]⟩ : ByteArray) 20 3 [[pS (⟨#[100, 97, 121]⟩ : ByteArray), pI 31, pI 480, pI 1019, pI 7], [pS (⟨#[119, 97, 116, 99, 104]⟩ : ByteArray), pI 127, pI 0, pI 1439, pI 3]] false
structure f36 (k0 : ByteArray → Int → Int → (List (List PC)) → Bool → Prop) : Prop where
  run : f36_d k0
noncomputable def f36_tab : List (Nat × Told) := []
noncomputable def f36_call : FuncId → List TV → List Entry → (TV → List Entry → Prop) → Prop := noCalls
noncomputable def f36_C : Ctx := { ty := tyOf tab, glob := glob, byRef := byRef, keep := fun k i => lookN [] (lookN [] ([] : List (Nat × List (Nat × List Nat))) k) i, late := lookN [] ([] : List (Nat × List Nat)), nref := lookN [] ([] : List (Nat × List Nat)), nbox := lookN [] ([] : List (Nat × List (Nat × Nat))), take := [], rnil := false, m := 0, fz := true, loops := lookL f36_tab, call := f36_call }
noncomputable def f36_G0 : List TV → List Entry → (TV → List Entry → Prop) → Prop := fun tm hp K => getS [] [] tm hp fun (xx : Unit) (yy : Unit) => f36 (fun s0_0 n0_1 n0_2 es0_3 full0_4 => K (.w (.pagg [pS s0_0, pI n0_1, pI n0_2, .sl 5 es0_3 full0_4])) [])
set_option maxRecDepth 100000 in
theorem f36_eq (K : TV → List Entry → Prop) : (f36_d (fun s0_0 n0_1 n0_2 es0_3 full0_4 => K (.w (.pagg [pS s0_0, pI n0_1, pI n0_2, .sl 5 es0_3 full0_4])) [])) = funcT f36_C Tryd.f36 [] [] K := by kernel_rfl
set_option maxHeartbeats 4000000 in
theorem f36_ok0 : FnOk Tryd.prog glob 36 f36_G0 := by
  refine FnOk.of_text (C := f36_C) tab_ok.ok (Known.none) follows_ok (fn := Tryd.f36) (by kernel_rfl) (by kernel_rfl) (by kernel_rfl) (fun c hc => ?_) fun tm hp K h => ?_
  · have e : c = bodyOf Tryd.f36 := Option.some.inj (hc.symm.trans (by kernel_rfl))
    subst e
    exact ⟨LoopsOk.of [] (by kernel_rfl) trivial, TailsOk.of (tab := f36_tab) rfl [] (by kernel_rfl) trivial⟩
  · unfold f36_G0 at h
    obtain ⟨xx, yy, rfl, rfl, h⟩ := getS_elim h
    have e := (f36_eq K).trans (show _ = funcT f36_C Tryd.f36 (mkR _ xx) (mkE _ yy) K by kernel_rfl)
    rw [← e]
    exact h.run
noncomputable abbrev f36_G := f36_G0
theorem f36_G_ok : FnOk Tryd.prog glob 36 f36_G := f36_ok0
end Go.Eng.N
set_option linter.unusedVariables false
set_option maxRecDepth 100000
open Go Go.Eng Go.Proofs
namespace Go.Eng.N
/-! ### f12: plenum/plenumlaw39.awake -/
noncomputable def f12_d (k0 : Bool → Prop) : Prop := f36 (fun s1 n2 n3 es4 full5 => f19 s1 n2 n3 es4 full5 43200 1 (fun es6 full7 n8 => f19 s1 n2 n3 es4 full5 43200 0 (fun es9 full10 n11 => f19 s1 n2 n3 es4 full5 201600 3 (fun es12 full13 n14 => f21 s1 n2 n3 es4 full5 0 (⟨#[]⟩ : ByteArray) 43200 0 4 0 0 (fun es15 full16 n17 => f25 s1 n2 n3 es4 full5 0 (fun es18 full19 n20 => f25 s1 n2 n3 es4 full5 4 (fun es21 full22 n23 => f27 s1 n2 n3 es4 full5 (⟨#[100, 97, 121]⟩ : ByteArray) (fun s24 n25 n26 es27 full28 n29 => f14 s1 n2 n3 es4 full5 (fun es30 full31 b32 es33 full34 n35 n36 => bB (n8 == 0) (bB (((es6.length : Nat) : Int) == 1) ((0 ≤ (0 : Int) ∧ (0 : Int) < ((es6.length : Nat) : Int)) ∧ oS (ext (List.getD es6 0 []) 0 1) fun s37 => bB (s37.toList == (⟨#[119, 97, 116, 99, 104]⟩ : ByteArray).toList) (bB (n11 == 0) (bB (((es9.length : Nat) : Int) == 0) (bB (n14 == 0) (bB (((es12.length : Nat) : Int) == 2) ((0 ≤ (0 : Int) ∧ (0 : Int) < ((es12.length : Nat) : Int)) ∧ oS (ext (List.getD es12 0 []) 0 1) fun s38 => bB (s38.toList == (⟨#[100, 97, 121]⟩ : ByteArray).toList) (bB (n17 == 0) (bB (((es15.length : Nat) : Int) == 1) ((0 ≤ (0 : Int) ∧ (0 : Int) < ((es15.length : Nat) : Int)) ∧ oB (ext (List.getD es15 0 []) 9 1) fun b39 => bB b39 ((0 ≤ (0 : Int) ∧ (0 : Int) < ((es15.length : Nat) : Int)) ∧ oI .i64 (ext (List.getD es15 0 []) 8 1) fun n40 => bB (n40 == 20) (bB (n20 == 0) (bB (((es18.length : Nat) : Int) == 12) ((0 ≤ (1 : Int) ∧ (1 : Int) < ((es18.length : Nat) : Int)) ∧ cI .i64 (ext (List.getD es18 1 []) 0 3) fun n42 r41 => cI .i64 r41 fun n44 r43 => cI .i64 r43 fun n46 r45 => nilC r45 <| bB ((n42 == 1) && ((n44 == 1020) && ((n46 == 1439) && true))) (bB (n23 == 0) (bB (((es21.length : Nat) : Int) == 0) (bB (n29 == 10) (bB (n36 == 0) (bB (((es33.length : Nat) : Int) == 2) (f16 s1 n2 n3 es4 full5 (fun n47 => k0 (n47 == 0))) (k0 false)) (k0 false)) (k0 false)) (k0 false)) (k0 false)) (k0 false)) (k0 false)) (k0 false)) (k0 false)) (k0 false)) (k0 false)) (k0 false)) (k0 false)) (k0 false)) (k0 false)) (k0 false)) (k0 false)) (k0 false)) (k0 false)) (k0 false))))))))))
structure f12 (k0 : Bool → Prop) : Prop where
  run : f12_d k0
noncomputable def f12_tab : List (Nat × Told) := []
noncomputable def f12_call : FuncId → List TV → List Entry → (TV → List Entry → Prop) → Prop := addCall 36 f36_G (addCall 27 f27_G (addCall 25 f25_G (addCall 21 f21_G (addCall 19 f19_G (addCall 16 f16_G (addCall 14 f14_G (noCalls)))))))
noncomputable def f12_C : Ctx := { ty := tyOf tab, glob := glob, byRef := byRef, keep := fun k i => lookN [] (lookN [] ([] : List (Nat × List (Nat × List Nat))) k) i, late := lookN [] ([] : List (Nat × List Nat)), nref := lookN [] ([] : List (Nat × List Nat)), nbox := lookN [] ([] : List (Nat × List (Nat × Nat))), take := [], rnil := false, m := 0, fz := true, loops := lookL f12_tab, call := f12_call }
noncomputable def f12_G0 : List TV → List Entry → (TV → List Entry → Prop) → Prop := fun tm hp K => getS [] [] tm hp fun (xx : Unit) (yy : Unit) => f12 (fun b0_0 => K (B b0_0) [])
set_option maxRecDepth 100000 in
theorem f12_eq (K : TV → List Entry → Prop) : (f12_d (fun b0_0 => K (B b0_0) [])) = funcT f12_C Tryd.f12 [] [] K := by kernel_rfl
set_option maxHeartbeats 4000000 in
theorem f12_ok0 : FnOk Tryd.prog glob 12 f12_G0 := by
  refine FnOk.of_text (C := f12_C) tab_ok.ok (Known.add f36_G_ok (Known.add f27_G_ok (Known.add f25_G_ok (Known.add f21_G_ok (Known.add f19_G_ok (Known.add f16_G_ok (Known.add f14_G_ok (Known.none)))))))) follows_ok (fn := Tryd.f12) (by kernel_rfl) (by kernel_rfl) (by kernel_rfl) (fun c hc => ?_) fun tm hp K h => ?_
  · have e : c = bodyOf Tryd.f12 := Option.some.inj (hc.symm.trans (by kernel_rfl))
    subst e
    exact ⟨LoopsOk.of [] (by kernel_rfl) trivial, TailsOk.of (tab := f12_tab) rfl [] (by kernel_rfl) trivial⟩
  · unfold f12_G0 at h
    obtain ⟨xx, yy, rfl, rfl, h⟩ := getS_elim h
    have e := (f12_eq K).trans (show _ = funcT f12_C Tryd.f12 (mkR _ xx) (mkE _ yy) K by kernel_rfl)
    rw [← e]
    exact h.run
noncomputable abbrev f12_G := f12_G0
theorem f12_G_ok : FnOk Tryd.prog glob 12 f12_G := f12_ok0
end Go.Eng.N
set_option linter.unusedVariables false
set_option maxRecDepth 100000
open Go Go.Eng Go.Proofs
namespace Go.Eng.N
/-! ### f4: plenum/plenumlaw39.NotifyTells -/
noncomputable def f4_p11 (s15 : ByteArray) (n16 : Int) (n17 : Int) (es18 : List (List PC)) (full19 : Bool) (n20 : Int) (s21 : ByteArray) (n22 : Int) (n23 : Int) (n24 : Int) (n25 : Int) (n26 : Int) (k0 : Bool → Prop) : Prop := f19 s15 n16 n17 es18 full19 n22 n24 (fun es27 full28 n29 => f20 s15 n16 n17 es18 full19 n22 n24 (fun es30 full31 n32 => f21 s15 n16 n17 es18 full19 n20 s21 n22 n23 n24 n25 n26 (fun es33 full34 n35 => f22 s15 n16 n17 es18 full19 n20 s21 n22 n23 n24 n25 n26 (fun es36 full37 n38 => bB (n29 == n32) (f23 es27 full28 es30 full31 (fun b39 => bB b39 (bB (n35 == n38) (f24 es33 full34 es36 full37 (fun b40 => k0 b40)) (k0 false)) (k0 false))) (k0 false)))))
noncomputable def f4_d (s1 : ByteArray) (n2 : Int) (n3 : Int) (es4 : List (List PC)) (full5 : Bool) (n6 : Int) (s7 : ByteArray) (n8 : Int) (n9 : Int) (n10 : Int) (n11 : Int) (n12 : Int) (k0 : Bool → Prop) : Prop := f12 (fun b13 => bB (!b13) (k0 false) (f13 s1 n2 n3 es4 full5 (fun b14 => bB (!b14) (k0 true) (bB (decide (((s7.size : Nat) : Int) > 100)) (k0 true) (f4_p11 s1 n2 n3 es4 full5 n6 s7 n8 n9 n10 n11 n12 (fun b41 => k0 b41))))))
structure f4 (s1 : ByteArray) (n2 : Int) (n3 : Int) (es4 : List (List PC)) (full5 : Bool) (n6 : Int) (s7 : ByteArray) (n8 : Int) (n9 : Int) (n10 : Int) (n11 : Int) (n12 : Int) (k0 : Bool → Prop) : Prop where
  run : f4_d s1 n2 n3 es4 full5 n6 s7 n8 n9 n10 n11 n12 k0
noncomputable def f4_p11L : Told := fun s K => match s with
  | ⟨tm, hp⟩ => getS [.skip 2, .v (.one (.ptr 0 0 0)), .v (.one (.ptr 1 0 0)), .skip 68] [.box [.str, .int .i64, .int .i64, .sl 5], .box [.int .i64, .str, .int .i64, .int .i64, .int .i64, .int .i64, .int .i64]] tm hp fun (xx : (Unit × (Unit × (Unit × (Unit × Unit))))) (yy : ((ByteArray × (Int × (Int × ((List (List PC) × Bool) × Unit)))) × ((Int × (ByteArray × (Int × (Int × (Int × (Int × (Int × Unit))))))) × Unit))) => f4_p11 yy.1.1 yy.1.2.1 yy.1.2.2.1 yy.1.2.2.2.1.1 yy.1.2.2.2.1.2 yy.2.1.1 yy.2.1.2.1 yy.2.1.2.2.1 yy.2.1.2.2.2.1 yy.2.1.2.2.2.2.1 yy.2.1.2.2.2.2.2.1 yy.2.1.2.2.2.2.2.2.1 (fun b0_0 => K .ret ⟨mkS 72 [(4, B b0_0)], []⟩)
noncomputable def f4_tab : List (Nat × Told) := [(11, f4_p11L)]
noncomputable def f4_call : FuncId → List TV → List Entry → (TV → List Entry → Prop) → Prop := addCall 24 f24_G (addCall 23 f23_G (addCall 22 f22_G (addCall 21 f21_G (addCall 20 f20_G (addCall 19 f19_G (addCall 13 f13_G (addCall 12 f12_G (noCalls))))))))
noncomputable def f4_C : Ctx := { ty := tyOf tab, glob := glob, byRef := byRef, keep := fun k i => lookN [] (lookN [] ([(11, [(0, [2, 3]), (1, [4]), (2, [4])])] : List (Nat × List (Nat × List Nat))) k) i, late := lookN [] ([] : List (Nat × List Nat)), nref := lookN [] ([] : List (Nat × List Nat)), nbox := lookN [] ([] : List (Nat × List (Nat × Nat))), take := [], rnil := false, m := 0, fz := true, loops := lookL f4_tab, call := f4_call }
set_option maxRecDepth 100000 in
theorem f4_p11e0 (s_1 : ByteArray) (n_2 : Int) (n_3 : Int) (es_4 : List (List PC)) (full_5 : Bool) (n_6 : Int) (s_7 : ByteArray) (n_8 : Int) (n_9 : Int) (n_10 : Int) (n_11 : Int) (n_12 : Int) (K : TExit → St → Prop) : (f4_p11 s_1 n_2 n_3 es_4 full_5 n_6 s_7 n_8 n_9 n_10 n_11 n_12 (fun b0_13 => K .ret ⟨mkS 72 [(4, B b0_13)], []⟩)) = execT f4_C (nthC (tails (bodyOf Tryd.f4)) 4) ⟨mkS 72 [(2, .w (.one (.ptr 0 0 0))), (3, .w (.one (.ptr 1 0 0)))], [.box [.p (pS s_1), .p (pI n_2), .p (pI n_3), .p (.sl 5 es_4 full_5)], .box [.p (pI n_6), .p (pS s_7), .p (pI n_8), .p (pI n_9), .p (pI n_10), .p (pI n_11), .p (pI n_12)]]⟩ (fun e s => K e (normOut f4_C 11 e s)) := by kernel_rfl
set_option maxHeartbeats 4000000 in
theorem f4_p11_ok : TailOk f4_C (nthC (tails (bodyOf Tryd.f4)) 4) := by
  refine TailOk.of f4_p11L (by kernel_rfl) fun σ K h => ?_
  have hk : joinKey (nthC (tails (bodyOf Tryd.f4)) 4) = 11 := by kernel_rfl
  rw [hk] at h ⊢
  generalize hs : normK f4_C 11 σ = s at h
  obtain ⟨tm, hp⟩ := s
  unfold f4_p11L at h
  dsimp only at h
  obtain ⟨xx, yy, rfl, rfl, h⟩ := getS_elim h
  have q : normK f4_C 11 σ = (⟨mkS 72 [(2, .w (.one (.ptr 0 0 0))), (3, .w (.one (.ptr 1 0 0)))], [.box [.p (pS yy.1.1), .p (pI yy.1.2.1), .p (pI yy.1.2.2.1), .p (.sl 5 yy.1.2.2.2.1.1 yy.1.2.2.2.1.2)], .box [.p (pI yy.2.1.1), .p (pS yy.2.1.2.1), .p (pI yy.2.1.2.2.1), .p (pI yy.2.1.2.2.2.1), .p (pI yy.2.1.2.2.2.2.1), .p (pI yy.2.1.2.2.2.2.2.1), .p (pI yy.2.1.2.2.2.2.2.2.1)]]⟩ : St) := hs.trans (by kernel_rfl)
  rw [← hs, q, ← f4_p11e0 yy.1.1 yy.1.2.1 yy.1.2.2.1 yy.1.2.2.2.1.1 yy.1.2.2.2.1.2 yy.2.1.1 yy.2.1.2.1 yy.2.1.2.2.1 yy.2.1.2.2.2.1 yy.2.1.2.2.2.2.1 yy.2.1.2.2.2.2.2.1 yy.2.1.2.2.2.2.2.2.1 K]
  exact h
noncomputable def f4_G0 : List TV → List Entry → (TV → List Entry → Prop) → Prop := fun tm hp K => getS [.v (.pagg [.str, .int .i64, .int .i64, .sl 5]), .v (.pagg [.int .i64, .str, .int .i64, .int .i64, .int .i64, .int .i64, .int .i64])] [] tm hp fun (xx : ((ByteArray × (Int × (Int × ((List (List PC) × Bool) × Unit)))) × ((Int × (ByteArray × (Int × (Int × (Int × (Int × (Int × Unit))))))) × Unit))) (yy : Unit) => f4 xx.1.1 xx.1.2.1 xx.1.2.2.1 xx.1.2.2.2.1.1 xx.1.2.2.2.1.2 xx.2.1.1 xx.2.1.2.1 xx.2.1.2.2.1 xx.2.1.2.2.2.1 xx.2.1.2.2.2.2.1 xx.2.1.2.2.2.2.2.1 xx.2.1.2.2.2.2.2.2.1 (fun b0_14 => K (B b0_14) [])
set_option maxRecDepth 100000 in
theorem f4_eq (s_15 : ByteArray) (n_16 : Int) (n_17 : Int) (es_18 : List (List PC)) (full_19 : Bool) (n_20 : Int) (s_21 : ByteArray) (n_22 : Int) (n_23 : Int) (n_24 : Int) (n_25 : Int) (n_26 : Int) (K : TV → List Entry → Prop) : (f4_d s_15 n_16 n_17 es_18 full_19 n_20 s_21 n_22 n_23 n_24 n_25 n_26 (fun b0_14 => K (B b0_14) [])) = funcT f4_C Tryd.f4 [.w (.pagg [pS s_15, pI n_16, pI n_17, .sl 5 es_18 full_19]), .w (.pagg [pI n_20, pS s_21, pI n_22, pI n_23, pI n_24, pI n_25, pI n_26])] [] K := by kernel_rfl
set_option maxHeartbeats 4000000 in
theorem f4_ok0 : FnOk Tryd.prog glob 4 f4_G0 := by
  refine FnOk.of_text (C := f4_C) tab_ok.ok (Known.add f24_G_ok (Known.add f23_G_ok (Known.add f22_G_ok (Known.add f21_G_ok (Known.add f20_G_ok (Known.add f19_G_ok (Known.add f13_G_ok (Known.add f12_G_ok (Known.none))))))))) follows_ok (fn := Tryd.f4) (by kernel_rfl) (by kernel_rfl) (by kernel_rfl) (fun c hc => ?_) fun tm hp K h => ?_
  · have e : c = bodyOf Tryd.f4 := Option.some.inj (hc.symm.trans (by kernel_rfl))
    subst e
    exact ⟨LoopsOk.of [] (by kernel_rfl) trivial, TailsOk.of (tab := f4_tab) rfl [nthC (tails (bodyOf Tryd.f4)) 4] (by kernel_rfl) ⟨f4_p11_ok, trivial⟩⟩
  · unfold f4_G0 at h
    obtain ⟨xx, yy, rfl, rfl, h⟩ := getS_elim h
    have e := (f4_eq xx.1.1 xx.1.2.1 xx.1.2.2.1 xx.1.2.2.2.1.1 xx.1.2.2.2.1.2 xx.2.1.1 xx.2.1.2.1 xx.2.1.2.2.1 xx.2.1.2.2.2.1 xx.2.1.2.2.2.2.1 xx.2.1.2.2.2.2.2.1 xx.2.1.2.2.2.2.2.2.1 K).trans (show _ = funcT f4_C Tryd.f4 (mkR _ xx) (mkE _ yy) K by kernel_rfl)
    rw [← e]
    exact h.run
noncomputable abbrev f4_G := f4_G0
theorem f4_G_ok : FnOk Tryd.prog glob 4 f4_G := f4_ok0
end Go.Eng.N
